/-
  For every input 'dovetaillaw07.MemJoins' returns true, and what came in reads as it did.
-/
import Derived.Test.YthdgpfegjdfpkaaMk
import Derived.Test.YthdgpfegjdfpkaaRows
namespace Go.Proofs.Ythdgpfegjdfpkaa.memJoins
open Go.ChangeShapes Go.WideShapes Go.ChangeAt Go.RowKit
set_option linter.unusedVariables false
set_option maxRecDepth 100000

theorem own : ownKnob Try.prog.godebug = none := by kernel_rfl
theorem laid : laidOutB Try.prog = true := by kernel_rfl
theorem plain : plainTys Try.prog [22, 41, 23, 3, 39, 5] = true := by kernel_rfl

theorem lifted (os : Os) (started : os.Started) (H : Type) (enc : TypeId × Value → H) :
    ReturnsInHanded {} Try.checked os 4 .any (Rows.memJoinsSpec.pre6 enc Try.prog Try.f4 Rows.memJoinsRow.domain false) (Rows.memJoinsSpec.post enc Try.prog Try.f4 false true false false) := by
  refine handed_light (C := Try.checked) own started (by kernel_rfl) Try.func4
    (ChangeSpec.witness6 (enc := enc) (C := Try.checked) false ⟨#[], #[.slice none 0 0, .int .u64 0, .int .i64 0], []⟩ 8 (by kernel_rfl) (by kernel_rfl) (by kernel_rfl) (by kernel_rfl)) ?_
  intro W base args ds gs before hval0 hW hwt0
  have hval : ∀ (j : Nat) t v, Try.f4.params[j]? = some t → args[j]? = some v → Value.okWide Try.prog W .any base t v := hval0
  have hW' := hW
  obtain ⟨p, q, hA0, hV, rfl, hfz, hnd⟩ := hW
  have hA : DataW.TrodAll enc Try.prog W 0 (fun _ => true) true Try.f4.params.toList args.toList ds p := hA0
  rw [Try.params4] at hA hval
  obtain ⟨v0, vs0, d0, ds0, p0, q0, hargs, rfl, rfl, h0, r0⟩ := trodAll_cons hA
  obtain ⟨v1, vs1, d1, ds1, p1, q1, rfl, rfl, rfl, h1, r1⟩ := trodAll_cons r0
  obtain ⟨v2, vs2, d2, ds2, p2, q2, rfl, rfl, rfl, h2, r2⟩ := trodAll_cons r1
  obtain ⟨rfl, rfl, rfl⟩ := trodAll_nil r2
  obtain rfl : args = #[v0, v1, v2] := by cases args; simp_all
  obtain ⟨rfl, rfl⟩ := trodVars_none hV
  have hwt : ∀ n ∈ DataW.weightsEach Try.prog [22, 23, 3] [d0, d1, d2], n ≤ reachBytes := hwt0
  obtain ⟨l0, hwt⟩ := light_here hwt
  obtain ⟨c0, t0, x0⟩ := open_arg plain (t := 22) (by decide) (hval 0 22 v0 rfl rfl) h0 l0
  obtain ⟨l1, hwt⟩ := light_here hwt
  obtain ⟨c1, t1, x1⟩ := open_arg plain (t := 23) (by decide) (hval 1 23 v1 rfl rfl) h1 l1
  obtain ⟨l2, hwt⟩ := light_here hwt
  obtain ⟨c2, t2, x2⟩ := open_arg plain (t := 3) (by decide) (hval 2 3 v2 rfl rfl) h2 l2
  clear hA0 hval0
  refine (Runs.calls (joinsLaw c0 t0 c1 t1 c2 t2) ⟨_, Try.func4, rfl, rfl⟩ (w := W) (vs := #[v0, v1, v2]) rfl fun i t v hi hv => ?_).mono fun e W' ⟨he, bel⟩ => ?_
  · match i with
    | 0 => cases hi; cases hv; exact x0
    | 1 => cases hi; cases hv; exact x1
    | 2 => cases hi; cases hv; exact x2
    | i + 3 => simp at hi
  subst he
  exact ⟨_, rfl, _, _, _, [], _, [], hW', trodAll_mk1 (shut_bool Try.underlying4 _), (trodAll_cons_mk (Below.trod laid (by kernel_rfl) (of_decide_eq_true (by kernel_rfl)) h0 bel (trod_old h0)) (trodAll_cons_mk (Below.trod laid (by kernel_rfl) (of_decide_eq_true (by kernel_rfl)) h1 bel (trod_old h1)) (trodAll_cons_mk (Below.trod laid (by kernel_rfl) (of_decide_eq_true (by kernel_rfl)) h2 bel (trod_old h2)) trodAll_mk0))), rfl, bel.frame _, fun h => by cases h⟩

theorem over : Rows.memJoinsRow.holds Try.pinned (OpenSpec.ofChange Rows.memJoinsSpec) :=
  OpenClaim.holds_of_wide 4 Try.f4 rfl rfl rfl rfl rfl rfl rfl ⟨rfl, rfl, rfl, rfl, rfl⟩ rfl rfl rfl rfl rfl (by kernel_rfl) Try.func4 (by kernel_rfl)
    (of_decide_eq_true (by kernel_rfl)) (by unfold Func.isWrapper; first | (rw [if_pos (by decide +kernel)]; kernel_rfl) | (rw [if_neg (by decide +kernel)]; exact ⟨rfl, rfl⟩))
    (fun os started H enc _ => lifted os started H enc)

theorem proved : Rows.MemJoinsSaid :=
  over
end Go.Proofs.Ythdgpfegjdfpkaa.memJoins
