/-
  For every input 'dovetaillaw05.IsacheckShipped' returns true, and what came in reads as it did; the listed tables are tied to the program's text.
-/
import Derived.Test.YtcogcbplmkcojaaGreatDoorSh
import Derived.Test.YtcogcbplmkcojaaGreatDoorCards
import Derived.Test.YtcogcbplmkcojaaGreatDoorTie
import Derived.ProofKit
import Derived.OpenShut
import Derived.LaidMore
import Derived.Lay
import Derived.SevenTiedAt
import Derived.Stop.Joined
namespace Go.Proofs.YtcogcbplmkcojaaGreatDoor.isacheckShipped
open Go.ChangeShapes Go.WideShapes Go.ChangeAt Go.RowKit
set_option linter.unusedVariables false
set_option maxRecDepth 100000
theorem own : ownKnob Tryz.prog.godebug = none := by kernel_rfl
def laid : List (String × DataW Unit) := Rows.isacheckShippedRow.laid
theorem lifted (os : Os) (started : os.Started) (H : Type) (enc : TypeId × Value → H) :
 ReturnsInHanded {} Tryz.checked os 3 .any (fun w args => (Rows.isacheckShippedSpec.pre enc Tryz.prog Tryz.f3 [] false w args ∧ laidMetH Tryz.prog laid w) ∧ sizedMet enc Tryz.prog Tryz.f3 (OpenSpec.ofChange Rows.isacheckShippedSpec) false w args)
  (Rows.isacheckShippedSpec.post enc Tryz.prog Tryz.f3 false true false false) := by
 refine returnsInHanded_of_change_and (C := Tryz.checked) (X := fun w _ => laidMetH Tryz.prog laid w) (fun _ _ _ hh h => h.of_heap hh) own started (by kernel_rfl) Tryz.func3
  (ChangeSpec.witness_shaped (enc := enc) (C := Tryz.checked) (os := os) (X := fun w _ => laidMetH Tryz.prog laid w) false (World.laidAll Tryz.prog os laid) #[] 8 (World.laidAll_os _ _ _)
   (World.shaped_of_ZipB (by kernel_rfl) (by kernel_rfl)) (by kernel_rfl) (by kernel_rfl) (by kernel_rfl)
   (by rw [MakeChecks.laidMetH_plain _ _ _ (by kernel_rfl)]; exact laidMet_laidAll _ (by kernel_rfl) (by kernel_rfl))) ?_
 intro W base args ds gs before zc hW hc _ hL _
 have p7 := hW
 obtain ⟨p, q, yF, hV, rfl, Rr, sj⟩ := hW
 have hA : DataW.TrodAll enc Tryz.prog W 0 (fun _ => true) true Tryz.f3.params.toList args.toList ds p := yF
 rw [Tryz.params3] at hA
 obtain ⟨fM, rfl, rfl⟩ := trodAll_nil hA
 obtain rfl : args = #[] := by cases args; simp_all
 obtain ⟨rfl, rfl⟩ := trodVars_none hV
 clear yF zc
 refine (φ.calls BE ⟨_, Tryz.func3, rfl, rfl⟩ (w := W) (vs := #[]) rfl fun i t v hi hv => by simp at hi).mono fun e W' ⟨he, CJ⟩ => ?_
 subst he
 exact ⟨_, rfl, _, _, _, [], _, [], p7, trodAll_mk1 (shut_bool Tryz.underlying4 _), trodAll_mk0, rfl, CJ.frame _, fun h => by cases h⟩
theorem over : Rows.isacheckShippedRow.holds Tryz.pinned (OpenSpec.ofChange Rows.isacheckShippedSpec) :=
 OpenClaim.holds_of_wide 3 Tryz.f3 rfl rfl rfl rfl rfl rfl rfl ⟨rfl, rfl, rfl, rfl, rfl⟩ rfl rfl rfl rfl rfl (by kernel_rfl) Tryz.func3 (by kernel_rfl)
  (of_decide_eq_true (by kernel_rfl)) (by unfold Func.isWrapper; first | (rw [if_pos (by decide +kernel)]; kernel_rfl) | (rw [if_neg (by decide +kernel)]; exact ⟨rfl, rfl⟩))
  (fun os started H enc _ => lifted os started H enc)
theorem proved : Rows.IsacheckShippedCardSaid :=
 Claim7.holds_tied_plain_at .later [] [.data, .pinned] true (true, "20233e931761ae318cc329d5b6025c11ae89f3db9a16458e0776081893da373e") false
  over (fun _ h => by cases h) (by kernel_rfl) (fun _ h => by cases h) isacheckShipped_row_tie rfl ⟨rfl, rfl⟩ (by kernel_rfl) rfl
  (fun f fn hf Kf => by
   obtain rfl : f = 3 := Option.some.inj ((show Tryz.prog.funcNamed "dovetail/dovetaillaw05.IsacheckShipped" = some 3 by kernel_rfl).symm.trans hf) |>.symm
   obtain rfl : fn = Tryz.f3 := (Option.some.inj (Tryz.func3.symm.trans Kf)).symm
   exact ⟨by kernel_rfl, fun j t ht => by
    rw [Tryz.params3] at ht
    simp at ht⟩)
  (by kernel_rfl)
end Go.Proofs.YtcogcbplmkcojaaGreatDoor.isacheckShipped
