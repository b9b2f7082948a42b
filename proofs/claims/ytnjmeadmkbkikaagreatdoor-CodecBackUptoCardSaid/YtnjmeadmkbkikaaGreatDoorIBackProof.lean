/-
  For every input 'dovetaillaw06.CodecBack' of bulk at most 1048576 returns true, and what came in reads as it did; the listed tables are tied to the program's text.
-/
import Derived.Test.YtnjmeadmkbkikaaGreatDoorJk
import Derived.Test.YtnjmeadmkbkikaaGreatDoorCards
import Derived.Test.YtnjmeadmkbkikaaGreatDoorTie
import Derived.ProofKit
import Derived.OpenShut
import Derived.LaidMore
import Derived.Lay
import Derived.SevenTiedAt
import Derived.Stop.Joined
import Derived.Deep.DeepHandedRow
namespace Go.Proofs.YtnjmeadmkbkikaaGreatDoor.codecBack
open Go.ChangeShapes Go.WideShapes Go.ChangeAt Go.RowKit
set_option linter.unusedVariables false
set_option maxRecDepth 100000

theorem own : ownKnob Tryz.prog.godebug = none := by kernel_rfl
theorem laidB : laidOutB Tryz.prog = true := by kernel_rfl
theorem plain : plainTys Tryz.prog [33, 3, 79, 9, 4, 22, 23, 24, 25, 26, 27, 28, 29, 30, 31, 46, 39, 40, 41, 128, 132, 63, 43, 145, 142, 148, 153, 208, 55, 171, 34, 5, 48] = true := by kernel_rfl

def laid : List (String × DataW Unit) := Rows.codecBackUptoRow.laid

theorem noArrs : noArr Tryz.prog [33, 3, 79, 9, 4, 22, 23, 24, 25, 26, 27, 28, 29, 30, 31, 46, 39, 40, 41, 128, 132, 63, 43, 145, 142, 148, 153, 208, 55, 171, 34, 5, 48] = true := by kernel_rfl

theorem lifted (os : Os) (started : os.Started) (H : Type) (enc : TypeId × Value → H) (F : Stop.Interp) :
    ReturnsInHanded {} Tryz.checked os 4 .any ((Rows.OpenSpec.upto Rows.codecBackSpec).preRow enc Tryz.prog Tryz.f4 Rows.codecBackUptoRow.domain false Rows.codecBackUptoRow.laid)
      (((Rows.OpenSpec.upto Rows.codecBackSpec).at F).post enc Tryz.prog Tryz.f4 false true false false) := by
  have hok : Input.okWideB Tryz.prog ((World.laidAll Tryz.prog os laid).forCall (fun _ _ => 0) ⟨#[], #[.agg #[.string ByteArray.empty, .int .i64 0, .slice none 0 0, .slice none 0 0, .slice none 0 0, .slice none 0 0, .slice none 0 0, .slice none 0 0, .slice none 0 0, .slice none 0 0, .slice none 0 0, .slice none 0 0, .slice none 0 0], .agg #[.int .i64 0, .slice none 0 0], .slice none 0 0], []⟩) 4 ⟨#[], #[.agg #[.string ByteArray.empty, .int .i64 0, .slice none 0 0, .slice none 0 0, .slice none 0 0, .slice none 0 0, .slice none 0 0, .slice none 0 0, .slice none 0 0, .slice none 0 0, .slice none 0 0, .slice none 0 0, .slice none 0 0], .agg #[.int .i64 0, .slice none 0 0], .slice none 0 0], []⟩ = true := by kernel_rfl
  have hsome : (DataW.whole enc Tryz.prog ((World.laidAll Tryz.prog os laid).forCall (fun _ _ => 0) ⟨#[], #[.agg #[.string ByteArray.empty, .int .i64 0, .slice none 0 0, .slice none 0 0, .slice none 0 0, .slice none 0 0, .slice none 0 0, .slice none 0 0, .slice none 0 0, .slice none 0 0, .slice none 0 0, .slice none 0 0, .slice none 0 0], .agg #[.int .i64 0, .slice none 0 0], .slice none 0 0], []⟩).memory Tryz.f4.params.toList (Rows.OpenSpec.upto Rows.codecBackSpec).vars false (#[.agg #[.string ByteArray.empty, .int .i64 0, .slice none 0 0, .slice none 0 0, .slice none 0 0, .slice none 0 0, .slice none 0 0, .slice none 0 0, .slice none 0 0, .slice none 0 0, .slice none 0 0, .slice none 0 0, .slice none 0 0], .agg #[.int .i64 0, .slice none 0 0], .slice none 0 0] : Array Value).toList 8).isSome = true := by kernel_rfl
  have hlaid : laidMetH Tryz.prog Rows.codecBackUptoRow.laid ((World.laidAll Tryz.prog os laid).forCall (fun _ _ => 0) ⟨#[], #[.agg #[.string ByteArray.empty, .int .i64 0, .slice none 0 0, .slice none 0 0, .slice none 0 0, .slice none 0 0, .slice none 0 0, .slice none 0 0, .slice none 0 0, .slice none 0 0, .slice none 0 0, .slice none 0 0, .slice none 0 0], .agg #[.int .i64 0, .slice none 0 0], .slice none 0 0], []⟩).memory := by
    rw [MakeChecks.laidMetH_plain _ _ _ (by kernel_rfl)]; exact laidMet_laidAll _ (by kernel_rfl) (by kernel_rfl)
  refine returnsInHanded_of_row (C := Tryz.checked) (s := Rows.OpenSpec.upto Rows.codecBackSpec) own started (by kernel_rfl) Tryz.func4
    ⟨World.laidAll Tryz.prog os laid, fun _ _ => 0, ⟨#[], #[.agg #[.string ByteArray.empty, .int .i64 0, .slice none 0 0, .slice none 0 0, .slice none 0 0, .slice none 0 0, .slice none 0 0, .slice none 0 0, .slice none 0 0, .slice none 0 0, .slice none 0 0, .slice none 0 0, .slice none 0 0], .agg #[.int .i64 0, .slice none 0 0], .slice none 0 0], []⟩, World.laidAll_os _ _ _, World.shaped_of_ZipB (by kernel_rfl) (by kernel_rfl), (Input.okWide_of_okWideB (base := 0) hok).1, (Input.okWide_of_okWideB hok).2,
      OpenSpec.preRow_of_cond 8 (Option.some_get hsome).symm (by kernel_rfl) (fun k hk => by cases hk; kernel_rfl) (by kernel_rfl) hlaid, by
        simp only [Assume.holds]
        exact ⟨by simp, by simp, fun _ => Modest.zero, by simp, by simp⟩⟩ ?_
  intro W base args ds gs before hval0 hW0 _ hk hwt0 hL _ _
  have hcond : Rows.uptoSmall H (ds ++ gs) = true := hk _ rfl
  have hbulk : Rows.uptoBulkAll (ds ++ gs) ≤ 1048576 := of_decide_eq_true hcond
  have hbk : ∀ d ∈ ds, Rows.uptoBulk d ≤ 1048576 := fun d hd => Nat.le_trans (upto_part (List.mem_append.2 (.inl hd))) hbulk
  clear hcond hbulk
  have hW : DataW.Whole enc Tryz.prog Tryz.f4.params.toList Rows.codecBackSpec.vars false W args.toList ds gs before := hW0
  have hval : ∀ (j : Nat) t v, Tryz.f4.params[j]? = some t → args[j]? = some v → Value.okWide Tryz.prog W .any base t v := hval0
  have hW' := hW
  obtain ⟨p, q, hA0, hV, rfl, hfz, hnd⟩ := hW
  have hA : DataW.TrodAll enc Tryz.prog W 0 (fun _ => true) true Tryz.f4.params.toList args.toList ds p := hA0
  rw [Tryz.params4] at hA hval
  obtain ⟨v0, vs0, d0, ds0, p0, q0, hargs, rfl, rfl, h0, r0⟩ := trodAll_cons hA
  obtain ⟨v1, vs1, d1, ds1, p1, q1, rfl, rfl, rfl, h1, r1⟩ := trodAll_cons r0
  obtain ⟨v2, vs2, d2, ds2, p2, q2, rfl, rfl, rfl, h2, r2⟩ := trodAll_cons r1
  obtain ⟨rfl, rfl, rfl⟩ := trodAll_nil r2
  obtain rfl : args = #[v0, v1, v2] := by cases args; simp_all
  obtain ⟨rfl, rfl⟩ := trodVars_none hV
  have hwt : ∀ n ∈ DataW.weightsEach Tryz.prog [33, 48, 34] [d0, d1, d2], n ≤ reachBytes := fun n hn => by
    have := List.all_eq_true.1 hwt0 n hn
    simpa using this
  obtain ⟨l0, hwt⟩ := light_here hwt
  obtain ⟨c0, t0, s0, x0⟩ := open_argU plain noArrs (t := 33) (by decide) (hval 0 33 v0 rfl rfl) h0 l0 (hbk d0 (by simp))
  obtain ⟨l1, hwt⟩ := light_here hwt
  obtain ⟨c1, t1, s1, x1⟩ := open_argU plain noArrs (t := 48) (by decide) (hval 1 48 v1 rfl rfl) h1 l1 (hbk d1 (by simp))
  obtain ⟨l2, hwt⟩ := light_here hwt
  obtain ⟨c2, t2, s2, x2⟩ := open_argU plain noArrs (t := 34) (by decide) (hval 2 34 v2 rfl rfl) h2 l2 (hbk d2 (by simp))
  clear hA0 hval0
  have contract : Calls Tryz.prog 4 #[v0, v1, v2] W fun e W' => ∃ v, e = .returned v ∧ Rows.codecBackSpec.post enc Tryz.prog Tryz.f4 false true false false W #[v0, v1, v2] v W' := by
    refine (Runs.calls (backLaw c0 t0 s0 c1 t1 s1 c2 t2 s2) ⟨_, Tryz.func4, rfl, rfl⟩ (w := W) (vs := #[v0, v1, v2]) rfl fun i t v hi hv => ?_).mono fun e W' ⟨he, bel⟩ => ?_
    · match i with
      | 0 => cases hi; cases hv; exact x0
      | 1 => cases hi; cases hv; exact x1
      | 2 => cases hi; cases hv; exact x2
      | i + 3 => simp at hi
    subst he
    exact ⟨_, rfl, _, _, _, [], _, [], hW', trodAll_mk1 (shut_bool Tryz.underlying4 _), (trodAll_cons_mk (Below.trod laidB (by kernel_rfl) (of_decide_eq_true (by kernel_rfl)) h0 bel (trod_old h0)) (trodAll_cons_mk (Below.trod laidB (by kernel_rfl) (of_decide_eq_true (by kernel_rfl)) h1 bel (trod_old h1)) (trodAll_cons_mk (Below.trod laidB (by kernel_rfl) (of_decide_eq_true (by kernel_rfl)) h2 bel (trod_old h2)) trodAll_mk0))), rfl, bel.frame _, fun h => by cases h⟩
  exact contract

theorem over : Rows.codecBackUptoRow.holds Tryz.pinned (Rows.OpenSpec.upto Rows.codecBackSpec) :=
  OpenClaim.holds_of_cond 4 Tryz.f4 rfl rfl rfl rfl rfl rfl rfl ⟨rfl, rfl, rfl, rfl, rfl⟩ rfl rfl rfl rfl rfl (by kernel_rfl) Tryz.func4 (by kernel_rfl)
    (of_decide_eq_true (by kernel_rfl)) (by unfold Func.isWrapper; first | (rw [if_pos (by decide +kernel)]; kernel_rfl) | (rw [if_neg (by decide +kernel)]; exact ⟨rfl, rfl⟩))
    (fun os started H enc _ F => by rw [OpenClaim.pre_eq_preRow]; exact lifted os started H enc F)

theorem proved : Rows.CodecBackUptoCardSaid :=
  Claim7.holds_tied_plain_at .later [] [.data, .pinned] true (true, "84460248c2960802f50f5133a21234e2df3d299be365116a7f87c8ce176d8230") false
    over (fun _ h => by cases h) (by kernel_rfl) (fun _ h => by cases h) codecBackUpto_row_tie rfl ⟨rfl, rfl⟩ (by kernel_rfl) rfl
    (fun f fn hf hfn => by
      obtain rfl : f = 4 := Option.some.inj ((show Tryz.prog.funcNamed "dovetail/dovetaillaw06.CodecBack" = some 4 by kernel_rfl).symm.trans hf) |>.symm
      obtain rfl : fn = Tryz.f4 := (Option.some.inj (Tryz.func4.symm.trans hfn)).symm
      exact ⟨by kernel_rfl, fun j t ht => by
        rw [Tryz.params4] at ht
        match j, ht with
        | 0, ht =>
          obtain rfl := Option.some.inj (show some (33) = some t from ht)
          show Tryz.prog.wantsStandIn 33 = false
          kernel_rfl
        | 1, ht =>
          obtain rfl := Option.some.inj (show some (48) = some t from ht)
          show Tryz.prog.wantsStandIn 48 = false
          kernel_rfl
        | 2, ht =>
          obtain rfl := Option.some.inj (show some (34) = some t from ht)
          show Tryz.prog.wantsStandIn 34 = false
          kernel_rfl
        | i + 3, ht => simp at ht⟩)
    (by kernel_rfl)
end Go.Proofs.YtnjmeadmkbkikaaGreatDoor.codecBack
