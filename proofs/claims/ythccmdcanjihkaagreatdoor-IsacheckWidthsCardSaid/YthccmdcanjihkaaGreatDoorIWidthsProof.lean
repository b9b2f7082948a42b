/-
  For every input 'dovetaillaw05.IsacheckWidths' returns true, and what came in reads as it did; the listed tables are tied to the program's text.
-/
import Derived.Test.YthccmdcanjihkaaGreatDoorWg
import Derived.Test.YthccmdcanjihkaaGreatDoorCards
import Derived.Test.YthccmdcanjihkaaGreatDoorTie
import Derived.ProofKit
import Derived.OpenShut
import Derived.LaidMore
import Derived.Lay
import Derived.SevenTiedAt
import Derived.Stop.Joined
namespace Go.Proofs.YthccmdcanjihkaaGreatDoor.isacheckWidths
open Go.ChangeShapes Go.WideShapes Go.ChangeAt Go.RowKit
set_option linter.unusedVariables false
set_option maxRecDepth 100000

theorem own : ownKnob Tryz.prog.godebug = none := by kernel_rfl
theorem laidB : laidOutB Tryz.prog = true := by kernel_rfl
theorem plain : plainTys Tryz.prog [33, 3, 47, 9, 4, 22, 23, 24, 25, 26, 27, 28, 29, 30, 31, 56, 39, 40, 41, 114, 118, 58, 43, 130, 127, 133, 138, 195, 83, 166] = true := by kernel_rfl

def laid : List (String × DataW Unit) := Rows.isacheckWidthsRow.laid

theorem lifted (os : Os) (started : os.Started) (H : Type) (enc : TypeId × Value → H) :
    ReturnsInHanded {} Tryz.checked os 4 .any (fun w args => (Rows.isacheckWidthsSpec.pre enc Tryz.prog Tryz.f4 [] false w args ∧ laidMetH Tryz.prog laid w) ∧ sizedMet enc Tryz.prog Tryz.f4 (OpenSpec.ofChange Rows.isacheckWidthsSpec) false w args)
      (Rows.isacheckWidthsSpec.post enc Tryz.prog Tryz.f4 false true false false) := by
  refine returnsInHanded_of_change_and (C := Tryz.checked) (X := fun w _ => laidMetH Tryz.prog laid w) (fun _ _ _ hh h => h.of_heap hh) own started (by kernel_rfl) Tryz.func4
    (ChangeSpec.witness_shaped (enc := enc) (C := Tryz.checked) (os := os) (X := fun w _ => laidMetH Tryz.prog laid w) false (World.laidAll Tryz.prog os laid) #[.agg #[.string ByteArray.empty, .int .i64 0, .slice none 0 0, .slice none 0 0, .slice none 0 0, .slice none 0 0, .slice none 0 0, .slice none 0 0, .slice none 0 0, .slice none 0 0, .slice none 0 0, .slice none 0 0, .slice none 0 0], .int .i64 0, .agg #[.int .i64 0, .int .i64 0, .int .i64 0, .int .i64 0, .slice none 0 0]] 8 (World.laidAll_os _ _ _)
      (World.shaped_of_ZipB (by kernel_rfl) (by kernel_rfl)) (by kernel_rfl) (by kernel_rfl) (by kernel_rfl)
      (by rw [MakeChecks.laidMetH_plain _ _ _ (by kernel_rfl)]; exact laidMet_laidAll _ (by kernel_rfl) (by kernel_rfl))) ?_
  intro W base args ds gs before hval0 hW hc hwt0 hL _
  have hval : ∀ (j : Nat) t v, Tryz.f4.params[j]? = some t → args[j]? = some v → Value.okWide Tryz.prog W .any base t v := hval0
  have hW' := hW
  obtain ⟨p, q, hA0, hV, rfl, hfz, hnd⟩ := hW
  have hA : DataW.TrodAll enc Tryz.prog W 0 (fun _ => true) true Tryz.f4.params.toList args.toList ds p := hA0
  rw [Tryz.params4] at hA hval
  obtain ⟨v0, vs0, d0, ds0, p0, q0, hargs, rfl, rfl, h0, r0⟩ := trodAll_cons hA
  obtain ⟨v1, vs1, d1, ds1, p1, q1, rfl, rfl, rfl, h1, r1⟩ := trodAll_cons r0
  obtain ⟨v2, vs2, d2, ds2, p2, q2, rfl, rfl, rfl, h2, r2⟩ := trodAll_cons r1
  obtain ⟨rfl, rfl, rfl⟩ := trodAll_nil r2
  obtain rfl : args = #[v0, v1, v2] := by cases args; simp_all
  obtain ⟨rfl, rfl⟩ := trodVars_none hV
  have hwt : ∀ n ∈ DataW.weightsEach Tryz.prog [33, 3, 47] [d0, d1, d2], n ≤ reachBytes := fun n hn => by
    have := List.all_eq_true.1 hwt0 n hn
    simpa using this
  obtain ⟨l0, hwt⟩ := light_here hwt
  obtain ⟨c0, t0, x0⟩ := open_arg plain (t := 33) (by decide) (hval 0 33 v0 rfl rfl) h0 l0
  obtain ⟨l1, hwt⟩ := light_here hwt
  obtain ⟨c1, t1, x1⟩ := open_arg plain (t := 3) (by decide) (hval 1 3 v1 rfl rfl) h1 l1
  obtain ⟨l2, hwt⟩ := light_here hwt
  obtain ⟨c2, t2, x2⟩ := open_arg plain (t := 47) (by decide) (hval 2 47 v2 rfl rfl) h2 l2
  clear hA0 hval0
  refine (Runs.calls (widthsLaw c0 t0 c1 t1 c2 t2) ⟨_, Tryz.func4, rfl, rfl⟩ (w := W) (vs := #[v0, v1, v2]) rfl fun i t v hi hv => ?_).mono fun e W' ⟨he, bel⟩ => ?_
  · match i with
    | 0 => cases hi; cases hv; exact x0
    | 1 => cases hi; cases hv; exact x1
    | 2 => cases hi; cases hv; exact x2
    | i + 3 => simp at hi
  subst he
  exact ⟨_, rfl, _, _, _, [], _, [], hW', trodAll_mk1 (shut_bool Tryz.underlying4 _), (trodAll_cons_mk (Below.trod laidB (by kernel_rfl) (of_decide_eq_true (by kernel_rfl)) h0 bel (trod_old h0)) (trodAll_cons_mk (Below.trod laidB (by kernel_rfl) (of_decide_eq_true (by kernel_rfl)) h1 bel (trod_old h1)) (trodAll_cons_mk (Below.trod laidB (by kernel_rfl) (of_decide_eq_true (by kernel_rfl)) h2 bel (trod_old h2)) trodAll_mk0))), rfl, bel.frame _, fun h => by cases h⟩

theorem over : Rows.isacheckWidthsRow.holds Tryz.pinned (OpenSpec.ofChange Rows.isacheckWidthsSpec) :=
  OpenClaim.holds_of_wide 4 Tryz.f4 rfl rfl rfl rfl rfl rfl rfl ⟨rfl, rfl, rfl, rfl, rfl⟩ rfl rfl rfl rfl rfl (by kernel_rfl) Tryz.func4 (by kernel_rfl)
    (of_decide_eq_true (by kernel_rfl)) (by unfold Func.isWrapper; first | (rw [if_pos (by decide +kernel)]; kernel_rfl) | (rw [if_neg (by decide +kernel)]; exact ⟨rfl, rfl⟩))
    (fun os started H enc _ => lifted os started H enc)

theorem proved : Rows.IsacheckWidthsCardSaid :=
  Claim7.holds_tied_plain_at .later [] [.data, .pinned] true (true, "e52e0b9e3709c508ba9471e8ee6997d7c058dd9f3c2a33ad914c9cf3802c985b") false
    over (fun _ h => by cases h) (by kernel_rfl) (fun _ h => by cases h) isacheckWidths_row_tie rfl ⟨rfl, rfl⟩ (by kernel_rfl) rfl
    (fun f fn hf hfn => by
      obtain rfl : f = 4 := Option.some.inj ((show Tryz.prog.funcNamed "dovetail/dovetaillaw05.IsacheckWidths" = some 4 by kernel_rfl).symm.trans hf) |>.symm
      obtain rfl : fn = Tryz.f4 := (Option.some.inj (Tryz.func4.symm.trans hfn)).symm
      exact ⟨by kernel_rfl, fun j t ht => by
        rw [Tryz.params4] at ht
        match j, ht with
        | 0, ht =>
          obtain rfl := Option.some.inj (show some (33) = some t from ht)
          show Tryz.prog.wantsStandIn 33 = false
          kernel_rfl
        | 1, ht =>
          obtain rfl := Option.some.inj (show some (3) = some t from ht)
          show Tryz.prog.wantsStandIn 3 = false
          kernel_rfl
        | 2, ht =>
          obtain rfl := Option.some.inj (show some (47) = some t from ht)
          show Tryz.prog.wantsStandIn 47 = false
          kernel_rfl
        | i + 3, ht => simp at ht⟩)
    (by kernel_rfl)
end Go.Proofs.YthccmdcanjihkaaGreatDoor.isacheckWidths
