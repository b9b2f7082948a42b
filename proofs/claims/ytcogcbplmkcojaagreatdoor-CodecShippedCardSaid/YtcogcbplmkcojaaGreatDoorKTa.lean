/-
  The shipped descriptions of layer 6's statements.
-/
import Derived.Test.YtcogcbplmkcojaaGreatDoorKSA
namespace Go.Proofs.YtcogcbplmkcojaaGreatDoor
open Go.IntWalk
set_option maxRecDepth 1000000
set_option linter.unusedVariables false
set_option linter.unusedSimpArgs false
set_option maxHeartbeats 1000000
noncomputable def z8:List (List UInt8):=OY Tryz.f14
theorem Qs:vx (z8.getD 0 [])=true:=by decide+kernel
theorem Qr:vx (z8.getD 1 [])=true:=by decide+kernel
theorem Qq:vx (z8.getD 2 [])=true:=by decide+kernel
end Go.Proofs.YtcogcbplmkcojaaGreatDoor
