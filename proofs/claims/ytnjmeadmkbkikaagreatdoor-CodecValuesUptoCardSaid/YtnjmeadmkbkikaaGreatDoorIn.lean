/-
  Which values a class has (the law, its arguments opened).
-/
import Derived.Test.YtnjmeadmkbkikaaGreatDoorIm
import Derived.Test.YtnjmeadmkbkikaaGreatDoorHu
import Derived.Test.YtnjmeadmkbkikaaGreatDoorGCo
namespace Go.Proofs.YtnjmeadmkbkikaaGreatDoor
open Go.IntWalk
set_option maxRecDepth 100000
set_option linter.unusedVariables false
set_option linter.unusedSimpArgs false

/-- What short parts mean for a description's classes. -/
theorem small_classes {d : DescD} {N : Nat} (h : SmallT N (descT d)) : d.classes.length ≤ N ∧ ∀ k ∈ d.classes, k.excl.length ≤ N := by
  cases h with
  | agg _ hs =>
    have h1 := hs (.vecd 7 (d.classes.map classT)) (by simp)
    cases h1 with
    | vecd _ _ h2 h3 =>
      refine ⟨by rwa [List.length_map] at h2, fun k hk => ?_⟩
      have h4 := h3 (classT k) (List.mem_map.2 ⟨k, hk, rfl⟩)
      cases h4 with
      | agg _ h5 =>
        have h6 := h5 (.vecd 1 (k.excl.map (T.int .i64))) (by simp)
        cases h6 with
        | vecd _ _ h7 _ => rwa [List.length_map] at h7

theorem valuesLaw (c0 : List T) (h0 : HasT Tryz.prog 33 c0) (s0 : ∀ c ∈ c0, SmallT 1048576 c) (c1 : List T) (h1 : HasT Tryz.prog 3 c1) (s1 : ∀ c ∈ c1, SmallT 1048576 c) (c2 : List T) (h2 : HasT Tryz.prog 3 c2) (s2 : ∀ c ∈ c2, SmallT 1048576 c) :
    Runs Tryz.prog 5 [argOf Tryz.prog 33 c0, argOf Tryz.prog 3 c1, argOf Tryz.prog 3 c2] (.t (.bool true)) := by
  obtain ⟨d, hdok, hd⟩ := desc_arg h0
  have ea : argOf Tryz.prog 33 c0 = .agg c0 := by unfold argOf; rw [Tryz.underlying33]
  have hsm : SmallT 1048576 (descT d) := hd.small (by rw [ea]; exact .agg _ s0)
  have hsum := small_forms hsm
  obtain ⟨hsc, hse⟩ := small_classes hsm
  obtain ⟨c, e1, hc⟩ := int_arg h1
  obtain ⟨v, e2, hv⟩ := int_arg h2
  rw [e1, e2]
  exact (valuesRuns codecAlive_runs d hdok (fun f hf => Nat.le_trans (hsum f hf) (by decide)) (Nat.le_trans hsc (by decide)) (fun k hk => Nat.le_trans (hse k hk) (by decide)) c v hc hv).sub ⟨hd, .refl _, .refl _, trivial⟩

end Go.Proofs.YtnjmeadmkbkikaaGreatDoor
