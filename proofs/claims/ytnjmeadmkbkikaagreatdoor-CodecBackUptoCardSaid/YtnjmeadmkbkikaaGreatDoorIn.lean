/-
  Which values a class has (the law, its arguments opened).
-/
import Derived.Test.YtnjmeadmkbkikaaGreatDoorIm
import Derived.Test.YtnjmeadmkbkikaaGreatDoorHu
import Derived.Test.YtnjmeadmkbkikaaGreatDoorGCo
namespace Go.Proofs.YtnjmeadmkbkikaaGreatDoor
open Go.IntWalk
set_option maxRecDepth 100000
set_option linter.unusedVariables false
set_option linter.unusedSimpArgs false

/-- What short parts mean for a description's classes. -/
theorem small_classes {d : DescD} {N : Nat} (h : SmallT N (descT d)) : d.classes.length ≤ N ∧ ∀ k ∈ d.classes, k.excl.length ≤ N := by
  cases h with
  | agg _ hs =>
    have h1 := hs (.vecd 7 (d.classes.map classT)) (by simp)
    cases h1 with
    | vecd _ _ h2 h3 =>
      refine ⟨by rwa [List.length_map] at h2, fun k hk => ?_⟩
      have h4 := h3 (classT k) (List.mem_map.2 ⟨k, hk, rfl⟩)
      cases h4 with
      | agg _ h5 =>
        have h6 := h5 (.vecd 1 (k.excl.map (T.int .i64))) (by simp)
        cases h6 with
        | vecd _ _ h7 _ => rwa [List.length_map] at h7

end Go.Proofs.YtnjmeadmkbkikaaGreatDoor
