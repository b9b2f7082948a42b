/-
  Heads and tables of a file: the document's functions; tables of both.
-/
import Derived.Test.YthpkehhghcpolaaDoorCk3
namespace Go.Proofs.YthpkehhghcpolaaDoor
open Go.IntWalk
set_option maxRecDepth 100000
set_option linter.unusedVariables false
set_option linter.unusedSimpArgs false

theorem bfin {p : Prop} [Decidable p] (b : Bool) (h : b = true ↔ p) : some (T.bool b) = some (T.bool (decide p)) := by
  congr 2
  by_cases hp : p
  · rw [decide_eq_true hp]; exact h.2 hp
  · rw [decide_eq_false hp]; exact Bool.eq_false_iff.2 fun hh => hp (h.1 hh)

theorem bno {p : Prop} [Decidable p] (h : ¬ p) : some (T.bool false) = some (T.bool (decide p)) := bfin false (iff_of_false (by simp) h)
theorem byes {p : Prop} [Decidable p] (h : p) : some (T.bool true) = some (T.bool (decide p)) := bfin true (iff_of_true rfl h)

/-! ### Tables -/

/-- Is a table of n headers right? -/
def tP (bs : List UInt8) (n size place want : Nat) : Prop := n = 0 ∨ gN bs size 2 = want ∧ 64 ≤ gN bs place 8 ∧ gN bs place 8 + n * want ≤ bs.length
noncomputable instance (bs n size place want) : Decidable (tP bs n size place want) := Classical.propDecidable _

/-- Are the tables of headers right? -/
def tbP (bs : List UInt8) : Prop := tP bs (gN bs 56 2) 54 32 56 ∧ tP bs (gN bs 60 2) 58 40 64 ∧ (gN bs 60 2 = 0 ∨ gN bs 62 2 < gN bs 60 2)
noncomputable instance (bs) : Decidable (tbP bs) := Classical.propDecidable _

end Go.Proofs.YthpkehhghcpolaaDoor
