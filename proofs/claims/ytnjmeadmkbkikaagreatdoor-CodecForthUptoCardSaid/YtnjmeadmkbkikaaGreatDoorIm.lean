/-
  Which values a class has (the law).
-/
import Derived.Test.YtnjmeadmkbkikaaGreatDoorIl
namespace Go.Proofs.YtnjmeadmkbkikaaGreatDoor
open Go.IntWalk
set_option maxRecDepth 100000
set_option linter.unusedVariables false
set_option linter.unusedSimpArgs false
set_option maxHeartbeats 4000000

end Go.Proofs.YtnjmeadmkbkikaaGreatDoor
