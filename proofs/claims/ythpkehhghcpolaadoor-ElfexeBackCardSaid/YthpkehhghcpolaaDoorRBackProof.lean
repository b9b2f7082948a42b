/-
  For every input 'dovetaillaw18.ElfexeBack' returns true, and what came in reads as it did; the listed tables are tied to the program's text.
-/
import Derived.Test.YthpkehhghcpolaaDoorRf
import Derived.Test.YthpkehhghcpolaaDoorCards
import Derived.Test.YthpkehhghcpolaaDoorTie
import Derived.ProofKit
import Derived.OpenShut
import Derived.LaidMore
import Derived.Lay
import Derived.SevenTiedAt
import Derived.Stop.Joined
namespace Go.Proofs.YthpkehhghcpolaaDoor.elfexeBack
open Go.ChangeShapes Go.WideShapes Go.ChangeAt Go.RowKit
set_option linter.unusedVariables false
set_option maxRecDepth 100000

theorem own : ownKnob Tryd.prog.godebug = none := by kernel_rfl
theorem laidB : laidOutB Tryd.prog = true := by kernel_rfl
theorem plain : plainTys Tryd.prog [25, 3, 22, 23, 72, 74, 27, 5] = true := by kernel_rfl

def laid : List (String × DataW Unit) := Rows.elfexeBackRow.laid

theorem lifted (os : Os) (started : os.Started) (H : Type) (enc : TypeId × Value → H) :
    ReturnsInHanded {} Tryd.checked os 3 .any (fun w args => (Rows.elfexeBackSpec.pre enc Tryd.prog Tryd.f3 [] false w args ∧ laidMetH Tryd.prog laid w) ∧ sizedMet enc Tryd.prog Tryd.f3 (OpenSpec.ofChange Rows.elfexeBackSpec) false w args)
      (Rows.elfexeBackSpec.post enc Tryd.prog Tryd.f3 false true false false) := by
  refine returnsInHanded_of_change_and (C := Tryd.checked) (X := fun w _ => laidMetH Tryd.prog laid w) (fun _ _ _ hh h => h.of_heap hh) own started (by kernel_rfl) Tryd.func3
    (ChangeSpec.witness_shaped (enc := enc) (C := Tryd.checked) (os := os) (X := fun w _ => laidMetH Tryd.prog laid w) false (World.laidAll Tryd.prog os laid) #[.agg #[.int .i64 0, .int .i64 0, .slice none 0 0, .slice none 0 0]] 8 (World.laidAll_os _ _ _)
      (World.shaped_of_ZipB (by kernel_rfl) (by kernel_rfl)) (by kernel_rfl) (by kernel_rfl) (by kernel_rfl)
      (by rw [MakeChecks.laidMetH_plain _ _ _ (by kernel_rfl)]; exact laidMet_laidAll _ (by kernel_rfl) (by kernel_rfl))) ?_
  intro W base args ds gs before hval0 hW hc hwt0 hL _
  have hval : ∀ (j : Nat) t v, Tryd.f3.params[j]? = some t → args[j]? = some v → Value.okWide Tryd.prog W .any base t v := hval0
  have hW' := hW
  obtain ⟨p, q, hA0, hV, rfl, hfz, hnd⟩ := hW
  have hA : DataW.TrodAll enc Tryd.prog W 0 (fun _ => true) true Tryd.f3.params.toList args.toList ds p := hA0
  rw [Tryd.params3] at hA hval
  obtain ⟨v0, vs0, d0, ds0, p0, q0, hargs, rfl, rfl, h0, r0⟩ := trodAll_cons hA
  obtain ⟨rfl, rfl, rfl⟩ := trodAll_nil r0
  obtain rfl : args = #[v0] := by cases args; simp_all
  obtain ⟨rfl, rfl⟩ := trodVars_none hV
  have hwt : ∀ n ∈ DataW.weightsEach Tryd.prog [25] [d0], n ≤ reachBytes := fun n hn => by
    have := List.all_eq_true.1 hwt0 n hn
    simpa using this
  obtain ⟨l0, hwt⟩ := light_here hwt
  obtain ⟨c0, t0, x0⟩ := open_arg plain (t := 25) (by decide) (hval 0 25 v0 rfl rfl) h0 l0
  clear hA0 hval0
  refine (Runs.calls (backLaw c0 t0) ⟨_, Tryd.func3, rfl, rfl⟩ (w := W) (vs := #[v0]) rfl fun i t v hi hv => ?_).mono fun e W' ⟨he, bel⟩ => ?_
  · match i with
    | 0 => cases hi; cases hv; exact x0
    | i + 1 => simp at hi
  subst he
  exact ⟨_, rfl, _, _, _, [], _, [], hW', trodAll_mk1 (shut_bool Tryd.underlying4 _), (trodAll_cons_mk (Below.trod laidB (by kernel_rfl) (of_decide_eq_true (by kernel_rfl)) h0 bel (trod_old h0)) trodAll_mk0), rfl, bel.frame _, fun h => by cases h⟩

theorem over : Rows.elfexeBackRow.holds Tryd.pinned (OpenSpec.ofChange Rows.elfexeBackSpec) :=
  OpenClaim.holds_of_wide 3 Tryd.f3 rfl rfl rfl rfl rfl rfl rfl ⟨rfl, rfl, rfl, rfl, rfl⟩ rfl rfl rfl rfl rfl (by kernel_rfl) Tryd.func3 (by kernel_rfl)
    (of_decide_eq_true (by kernel_rfl)) (by unfold Func.isWrapper; first | (rw [if_pos (by decide +kernel)]; kernel_rfl) | (rw [if_neg (by decide +kernel)]; exact ⟨rfl, rfl⟩))
    (fun os started H enc _ => lifted os started H enc)

theorem proved : Rows.ElfexeBackCardSaid :=
  Claim7.holds_tied_plain_at .later [] [.sentinel] true (true, "562b759f6ef98129bde84e0dd3753e27846d1af8ef21b32737727454d1582478") true
    over (fun _ h => by cases h) (by kernel_rfl) (fun _ h => by cases h) elfexeBack_row_tie rfl ⟨rfl, rfl⟩ (by kernel_rfl) rfl
    (fun f fn hf hfn => by
      obtain rfl : f = 3 := Option.some.inj ((show Tryd.prog.funcNamed "dovetail/dovetaillaw18.ElfexeBack" = some 3 by kernel_rfl).symm.trans hf) |>.symm
      obtain rfl : fn = Tryd.f3 := (Option.some.inj (Tryd.func3.symm.trans hfn)).symm
      exact ⟨by kernel_rfl, fun j t ht => by
        rw [Tryd.params3] at ht
        match j, ht with
        | 0, ht =>
          obtain rfl := Option.some.inj (show some (25) = some t from ht)
          show Tryd.prog.wantsStandIn 25 = false
          kernel_rfl
        | i + 1, ht => simp at ht⟩)
    (by kernel_rfl)
end Go.Proofs.YthpkehhghcpolaaDoor.elfexeBack
