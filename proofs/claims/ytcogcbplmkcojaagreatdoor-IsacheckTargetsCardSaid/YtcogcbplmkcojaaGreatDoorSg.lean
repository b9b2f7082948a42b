/-
  The shipped descriptions are right (the law).
-/
import Derived.Test.YtcogcbplmkcojaaGreatDoorSf
namespace Go.Proofs.YtcogcbplmkcojaaGreatDoor
open Go.IntWalk
set_option maxRecDepth 1000000
set_option linter.unusedVariables false
set_option linter.unusedSimpArgs false
set_option maxHeartbeats 1000000
noncomputable def fQ : List (List UInt8) := JS Tryz.f3
theorem Ia : qF (fQ.getD 0 []) = true := by decide +kernel
theorem H_ : qF (fQ.getD 1 []) = true := by decide +kernel
theorem H9 : qF (fQ.getD 2 []) = true := by decide +kernel
theorem Ib : fQ.length = 3 := by decide +kernel
theorem B3 (i : Nat) (h : i < 3) : ∃ t, fQ[i]? = some t ∧ qF t = true := by
 have e : fQ[i]? = some (fQ.getD i []) := by
  rw [List.getD_eq_getElem?_getD, List.getElem?_eq_getElem (by rw [Ib]; exact h)]
  rfl
 refine ⟨_, e, ?_⟩
 rcases (by omega : i = 0 ∨ i = 1 ∨ i = 2) with rfl | rfl | rfl
 ·exact Ia
 ·exact H_
 ·exact H9
end Go.Proofs.YtcogcbplmkcojaaGreatDoor
