/-
  For every input 'dovetaillaw01.BvecDivides' returns true, and what came in reads as it did.
-/
import Derived.Test.YtkjhkcpgkccocaaFr
import Derived.Test.YtkjhkcpgkccocaaQf
namespace Go.Proofs.Ytkjhkcpgkccocaa.bvecDivides
open Go.ChangeShapes Go.WideShapes Go.ChangeAt Go.RowKit
set_option linter.unusedVariables false

theorem own : ownKnob Try.prog.godebug = none := by kernel_rfl

theorem walk (a0 b0 c0 : Int) (a1 b1 c1 : Int) (w0 : (Lit.int .i64 a0).wf = true) (x0 : (Lit.int .u64 b0).wf = true) (y0 : (Lit.int .u64 c0).wf = true) (w1 : (Lit.int .i64 a1).wf = true) (x1 : (Lit.int .u64 b1).wf = true) (y1 : (Lit.int .u64 c1).wf = true) (w : World) :
    Calls Try.prog 5 #[.agg #[.int .i64 a0, .int .u64 b0, .int .u64 c0], .agg #[.int .i64 a1, .int .u64 b1, .int .u64 c1]] w fun e w' => e = .returned (.bool true) ∧ Below w.heap.size w w' := by
  obtain ⟨n0, hn0, r0⟩ := bits_rt (w := w) (M := fun _ => False) (a := a0) x0 y0
  obtain ⟨n1, hn1, r1⟩ := bits_rt (w := w) (M := fun _ => False) (a := a1) x1 y1
  refine Runs.calls (divides_runs a0 n0 a1 n1 hn0 hn1) ⟨_, Try.func5, rfl, rfl⟩ rfl fun i t v hi hv => ?_
  match i with
  | 0 => cases hi; cases hv; exact r0
  | 1 => cases hi; cases hv; exact r1
  | i + 2 => simp at hi

set_option maxRecDepth 100000 in
theorem lifted (os : Os) (started : os.Started) (H : Type) (enc : TypeId × Value → H) :
    ReturnsInHanded {} Try.checked os 5 .any (Rows.bvecDividesSpec.pre6 enc Try.prog Try.f5 Rows.bvecDividesRow.domain false) (Rows.bvecDividesSpec.post enc Try.prog Try.f5 false true false false) := by
  refine returnsInHanded_of_change (C := Try.checked) own started (by kernel_rfl) Try.func5
    (ChangeSpec.witness6 (enc := enc) (C := Try.checked) false ⟨#[], #[.agg #[.int .i64 0, .int .u64 0, .int .u64 0], .agg #[.int .i64 0, .int .u64 0, .int .u64 0]], []⟩ 8 (by kernel_rfl) (by kernel_rfl) (by kernel_rfl) (by kernel_rfl)) ?_
  intro W base args ds gs before hval0 hW hcnd _
  have hval : ∀ (j : Nat) t v, Try.f5.params[j]? = some t → args[j]? = some v → Value.okWide Try.prog W .any base t v := hval0
  have hW' := hW
  obtain ⟨p, q, hA0, hV, rfl, hfz, hnd⟩ := hW
  have hA : DataW.TrodAll enc Try.prog W 0 (fun _ => true) true Try.f5.params.toList args.toList ds p := hA0
  rw [Try.params5] at hA hval
  obtain ⟨v0, vs0, d0, ds0, p0, q0, hargs, rfl, rfl, h0, r0⟩ := trodAll_cons hA
  obtain ⟨v1, vs1, d1, ds1, p1, q1, rfl, rfl, rfl, h1, r1⟩ := trodAll_cons r0
  obtain ⟨rfl, rfl, rfl⟩ := trodAll_nil r1
  obtain rfl : args = #[v0, v1] := by cases args; simp_all
  obtain ⟨rfl, rfl⟩ := trodVars_none hV
  obtain ⟨a0, b0, c0, rfl, rfl, rfl, w0, x0, y0⟩ := open_three bitsFld (hval 0 25 v0 rfl rfl) h0
  obtain ⟨a1, b1, c1, rfl, rfl, rfl, w1, x1, y1⟩ := open_three bitsFld (hval 1 25 v1 rfl rfl) h1
  clear hA0 hval0
  refine (walk a0 b0 c0 a1 b1 c1 w0 x0 y0 w1 x1 y1 W).mono fun e W' ⟨he, bel⟩ => ?_
  subst he
  exact ⟨_, rfl, _, _, _, [], _, [], hW', trodAll_mk1 (shut_bool Try.underlying4 _), (trodAll_cons_mk (shut_three bitsFld w0 x0 y0) (trodAll_cons_mk (shut_three bitsFld w1 x1 y1) trodAll_mk0)), rfl, bel.frame _, fun h => by cases h⟩

theorem over : Rows.bvecDividesRow.holds Try.pinned (OpenSpec.ofChange Rows.bvecDividesSpec) :=
  OpenClaim.holds_of_wide 5 Try.f5 rfl rfl rfl rfl rfl rfl rfl ⟨rfl, rfl, rfl, rfl, rfl⟩ rfl rfl rfl rfl rfl (by kernel_rfl) Try.func5 (by kernel_rfl)
    (of_decide_eq_true (by kernel_rfl)) (by unfold Func.isWrapper; first | (rw [if_pos (by decide +kernel)]; kernel_rfl) | (rw [if_neg (by decide +kernel)]; exact ⟨rfl, rfl⟩))
    (fun os started H enc _ => lifted os started H enc)

theorem proved : Rows.BvecDividesSaid :=
  over
end Go.Proofs.Ytkjhkcpgkccocaa.bvecDivides
