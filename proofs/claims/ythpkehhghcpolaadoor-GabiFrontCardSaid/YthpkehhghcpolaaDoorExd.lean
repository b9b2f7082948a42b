/-
  The front alone of an executable's file is not well-formed (plain).
-/
import Derived.Test.YthpkehhghcpolaaDoorExc
namespace Go.Proofs.YthpkehhghcpolaaDoor
open Go.IntWalk
set_option linter.unusedVariables false

theorem file_cut (x : ExeD) (hn : (hdsOf x).length < 65536) (c : Nat) (hc : c < 64 + 56 * (hdsOf x).length) : answer ((fileL x).take c) ≠ 0 := by
  have hl : ((fileL x).take c).length ≤ c := by rw [List.length_take]; omega
  by_cases h : c < 64
  · have hh : ¬ hdP ((fileL x).take c) := fun h => by have := h.1.1; omega
    rw [answer, if_pos hh]; decide
  · have e : (fileL x).take c = frontB x (hdsOf x).length ++ (hdsB (hdsOf x) (offsOf (64 + 56 * (hdsOf x).length) (hdsOf x)) ++ bodyOf (64 + 56 * (hdsOf x).length) (hdsOf x)).take (c - 64) := by
      have e1 : fileL x = frontB x (hdsOf x).length ++ (hdsB (hdsOf x) (offsOf (64 + 56 * (hdsOf x).length) (hdsOf x)) ++ bodyOf (64 + 56 * (hdsOf x).length) (hdsOf x)) := by simp [fileL, List.append_assoc]
      rw [e1, List.take_append, frontB_len, List.take_of_length_le (by rw [frontB_len]; omega)]
    have n56 : gN ((fileL x).take c) 56 2 = (hdsOf x).length := by rw [e, fr_56]; omega
    have n32 : gN ((fileL x).take c) 32 8 = 64 := by rw [e, fr_32]
    have hh : hdP ((fileL x).take c) := by rw [e]; exact fr_head _ _ _
    have ht : ¬ tbP ((fileL x).take c) := fun ht => by
      rcases ht.1 with ht | ⟨_, _, ht⟩
      · rw [n56] at ht; omega
      · rw [n32, n56] at ht; omega
    rw [answer, if_neg (by simp [hh]), if_pos ht]; decide

end Go.Proofs.YthpkehhghcpolaaDoor
