/-
  For every input 'dovetaillaw05.IsacheckTargets' returns true, and what came in reads as it did; the listed tables are tied to the program's text.
-/
import Derived.Test.YtcogcbplmkcojaaGreatDoorSi
import Derived.Test.YtcogcbplmkcojaaGreatDoorCards
import Derived.Test.YtcogcbplmkcojaaGreatDoorTie
import Derived.ProofKit
import Derived.OpenShut
import Derived.LaidMore
import Derived.Lay
import Derived.SevenTiedAt
import Derived.Stop.Joined
namespace Go.Proofs.YtcogcbplmkcojaaGreatDoor.isacheckTargets
open Go.ChangeShapes Go.WideShapes Go.ChangeAt Go.RowKit
set_option linter.unusedVariables false
set_option maxRecDepth 100000
theorem own : ownKnob Tryz.prog.godebug = none := by kernel_rfl
theorem laidB : laidOutB Tryz.prog = true := by kernel_rfl
theorem plain : oO Tryz.prog [40, 5] = true := by kernel_rfl
def laid : List (String × DataW Unit) := Rows.isacheckTargetsRow.laid
theorem lifted (os : Os) (started : os.Started) (H : Type) (enc : TypeId × Value → H) :
 ReturnsInHanded {} Tryz.checked os 4 .any (fun w args => (Rows.isacheckTargetsSpec.pre enc Tryz.prog Tryz.f4 [] false w args ∧ laidMetH Tryz.prog laid w) ∧ sizedMet enc Tryz.prog Tryz.f4 (OpenSpec.ofChange Rows.isacheckTargetsSpec) false w args)
  (Rows.isacheckTargetsSpec.post enc Tryz.prog Tryz.f4 false true false false) := by
 refine returnsInHanded_of_change_and (C := Tryz.checked) (X := fun w _ => laidMetH Tryz.prog laid w) (fun _ _ _ hh h => h.of_heap hh) own started (by kernel_rfl) Tryz.func4
  (ChangeSpec.witness_shaped (enc := enc) (C := Tryz.checked) (os := os) (X := fun w _ => laidMetH Tryz.prog laid w) false (World.laidAll Tryz.prog os laid) #[.slice none 0 0] 8 (World.laidAll_os _ _ _)
   (World.shaped_of_ZipB (by kernel_rfl) (by kernel_rfl)) (by kernel_rfl) (by kernel_rfl) (by kernel_rfl)
   (by rw [MakeChecks.laidMetH_plain _ _ _ (by kernel_rfl)]; exact laidMet_laidAll _ (by kernel_rfl) (by kernel_rfl))) ?_
 intro W base args ds gs before zc hW hc P2 hL _
 have jL : ∀ (j : Nat) t v, Tryz.f4.params[j]? = some t → args[j]? = some v → Value.okWide Tryz.prog W .any base t v := zc
 have p7 := hW
 obtain ⟨p, q, yF, hV, rfl, Rr, sj⟩ := hW
 have hA : DataW.TrodAll enc Tryz.prog W 0 (fun _ => true) true Tryz.f4.params.toList args.toList ds p := yF
 rw [Tryz.params4] at hA jL
 obtain ⟨v0, Qv, d0, TG, p0, q0, fM, rfl, rfl, h0, r0⟩ := trodAll_cons hA
 obtain ⟨rfl, rfl, rfl⟩ := trodAll_nil r0
 obtain rfl : args = #[v0] := by cases args; simp_all
 obtain ⟨rfl, rfl⟩ := trodVars_none hV
 have nA : ∀ n ∈ DataW.weightsEach Tryz.prog [40] [d0], n ≤ reachBytes := fun n hn => by
  have := List.all_eq_true.1 P2 n hn
  simpa using this
 obtain ⟨l0, nA⟩ := Dt nA
 obtain ⟨c0, t0, x0⟩ := IH plain (t := 40) (by decide) (jL 0 40 v0 rfl rfl) h0 l0
 clear yF zc
 refine (φ.calls (CZ c0 t0) ⟨_, Tryz.func4, rfl, rfl⟩ (w := W) (vs := #[v0]) rfl fun i t v hi hv => ?_).mono fun e W' ⟨he, CJ⟩ => ?_
 ·match i with
  | 0 => cases hi; cases hv; exact x0
  | i + 1 => simp at hi
 subst he
 exact ⟨_, rfl, _, _, _, [], _, [], p7, trodAll_mk1 (shut_bool Tryz.underlying4 _), (trodAll_cons_mk (Below.trod laidB (by kernel_rfl) (of_decide_eq_true (by kernel_rfl)) h0 CJ (HZ h0)) trodAll_mk0), rfl, CJ.frame _, fun h => by cases h⟩
theorem over : Rows.isacheckTargetsRow.holds Tryz.pinned (OpenSpec.ofChange Rows.isacheckTargetsSpec) :=
 OpenClaim.holds_of_wide 4 Tryz.f4 rfl rfl rfl rfl rfl rfl rfl ⟨rfl, rfl, rfl, rfl, rfl⟩ rfl rfl rfl rfl rfl (by kernel_rfl) Tryz.func4 (by kernel_rfl)
  (of_decide_eq_true (by kernel_rfl)) (by unfold Func.isWrapper; first | (rw [if_pos (by decide +kernel)]; kernel_rfl) | (rw [if_neg (by decide +kernel)]; exact ⟨rfl, rfl⟩))
  (fun os started H enc _ => lifted os started H enc)
theorem proved : Rows.IsacheckTargetsCardSaid :=
 Claim7.holds_tied_plain_at .later [] [.data, .pinned] true (true, "20233e931761ae318cc329d5b6025c11ae89f3db9a16458e0776081893da373e") false
  over (fun _ h => by cases h) (by kernel_rfl) (fun _ h => by cases h) isacheckTargets_row_tie rfl ⟨rfl, rfl⟩ (by kernel_rfl) rfl
  (fun f fn hf Kf => by
   obtain rfl : f = 4 := Option.some.inj ((show Tryz.prog.funcNamed "dovetail/dovetaillaw05.IsacheckTargets" = some 4 by kernel_rfl).symm.trans hf) |>.symm
   obtain rfl : fn = Tryz.f4 := (Option.some.inj (Tryz.func4.symm.trans Kf)).symm
   exact ⟨by kernel_rfl, fun j t ht => by
    rw [Tryz.params4] at ht
    match j, ht with
    | 0, ht =>
     obtain rfl := Option.some.inj (show some (40) = some t from ht)
     show Tryz.prog.wantsStandIn 40 = false
     kernel_rfl
    | i + 1, ht => simp at ht⟩)
  (by kernel_rfl)
end Go.Proofs.YtcogcbplmkcojaaGreatDoor.isacheckTargets
