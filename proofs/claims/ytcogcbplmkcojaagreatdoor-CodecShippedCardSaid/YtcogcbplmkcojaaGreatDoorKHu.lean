/-
  What it means that the parts of a description are short.
-/
import Derived.Test.YtcogcbplmkcojaaGreatDoorKHi
import Derived.Test.YtcogcbplmkcojaaGreatDoorKFg
namespace Go.Proofs.YtcogcbplmkcojaaGreatDoor
open Go.IntWalk
set_option maxRecDepth 100000
set_option linter.unusedVariables false
set_option linter.unusedSimpArgs false
def bc(b:List UInt8):List T:=b.map fun c=>T.int .u8 c.toNat
end Go.Proofs.YtcogcbplmkcojaaGreatDoor
