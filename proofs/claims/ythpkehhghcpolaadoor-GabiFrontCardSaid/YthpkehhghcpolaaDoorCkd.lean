/-
  The law on checks, for whatever bytes.
-/
import Derived.Test.YthpkehhghcpolaaDoorCkc
import Derived.Test.YthpkehhghcpolaaDoorGAg
import Derived.Test.YthpkehhghcpolaaDoorFb
namespace Go.Proofs.YthpkehhghcpolaaDoor
open Go.IntWalk
set_option maxRecDepth 100000
set_option linter.unusedVariables false
set_option linter.unusedSimpArgs false

theorem bytes_arg {cs : List T} (h : HasT Tryd.prog 27 cs) : (argOf Tryd.prog 27 cs = .nils) ∨ ∃ bs : List UInt8, bs.length ≤ 140737488351232 ∧ argOf Tryd.prog 27 cs = .vec 1 (U bs) := by
  rcases h.bytes' Tryd.underlying27 Tryd.underlying5 (by kernel_rfl) (by kernel_rfl) with rfl | ⟨bs, hl, rfl⟩
  · exact .inl rfl
  · exact .inr ⟨bs, hl, rfl⟩

theorem fits1 {n : Nat} (h : n ≤ 140737488355328) : fitsRow n 1 = true := by simp [fitsRow]; omega

end Go.Proofs.YthpkehhghcpolaaDoor
