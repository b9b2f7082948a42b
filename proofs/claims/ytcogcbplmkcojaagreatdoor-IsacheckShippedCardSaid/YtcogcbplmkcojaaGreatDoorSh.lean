/-
  The shipped descriptions are right (walk of the law).
-/
import Derived.Test.YtcogcbplmkcojaaGreatDoorSg
namespace Go.Proofs.YtcogcbplmkcojaaGreatDoor
open Go.IntWalk
set_option maxRecDepth 100000
set_option linter.unusedVariables false
set_option linter.unusedSimpArgs false
set_option maxHeartbeats 1000000
theorem BE : φ Tryz.prog 3 [] (.t (.bool true)) := by
 have DB := B3
 refine φ.Λ ?_ rfl
 refine γ.ο ζ η Tryz.func3 rfl rfl ?_
 refine γ.pure nz rfl ?_
 refine ak (fun i : Nat => i ≤ 3) (fun i => ⟨[(10, .sl 0 0 0 3), (11, .t (.int .i64 3)), (12, .t (.int .i64 i))], [.arr 9 1 false 0 (.ts (fQ.map T.str))]⟩)
  (fun i => 3 - i) 0 (Nat.zero_le _) ?_ (fun i hi => ?_)
 ·exact a8 ⟨rfl, rfl, rfl, trivial⟩ rfl
 refine U (fun c => ?_) (fun c => ?_)
 ·have c : i < 3 := by have := of_decide_eq_true c; omega
  obtain ⟨t, ht, de⟩ := DB i c
  obtain ⟨d, hp, hd, kh, hs, NF⟩ := yg de
  refine ε (mD rfl (by omega)) ?_
  refine ξ (show (fQ.map T.str)[0 + i]? = some (.str t) from by rw [Nat.zero_add, List.getElem?_map, ht]; rfl) ?_
  refine γ.pure (qh hp) rfl ?_
  refine γ.cD (uK d hd hs) rfl ⟨.refl _, trivial⟩ ?_
  rintro _ ⟨n, e, rfl, hv⟩
  obtain ⟨rfl, rfl⟩ := hv.JU kh
  refine U (fun c => absurd (of_decide_eq_true c) (by rw [List.length_map]; omega)) (fun _ => ?_)
  refine δ (n := ((i + 1 : Nat) : Int)) (ag (n := i + 1) (by omega)) ?_
  conv => whnf
  exact ⟨⟨i + 1, c⟩, π [0] rfl ⟨rfl, rfl, rfl, trivial⟩ ⟨rfl, trivial⟩, by show 3 - (i + 1) < 3 - i; omega⟩
 ·exact And.intro rfl rfl
end Go.Proofs.YtcogcbplmkcojaaGreatDoor
