/-
  For every input 'dovetaillaw01.BvecBack' returns true, and what came in reads as it did.
-/
import Derived.Test.YtkjhkcpgkccocaaFr
import Derived.Test.YtkjhkcpgkccocaaQe
namespace Go.Proofs.Ytkjhkcpgkccocaa.bvecBack
open Go.ChangeShapes Go.WideShapes Go.ChangeAt Go.RowKit
set_option linter.unusedVariables false

theorem own : ownKnob Try.prog.godebug = none := by kernel_rfl

theorem walk (a0 b0 c0 : Int) (a1 b1 c1 : Int) (a2 : Int) (w0 : (Lit.int .i64 a0).wf = true) (x0 : (Lit.int .u64 b0).wf = true) (y0 : (Lit.int .u64 c0).wf = true) (w1 : (Lit.int .i64 a1).wf = true) (x1 : (Lit.int .u64 b1).wf = true) (y1 : (Lit.int .u64 c1).wf = true) (w2 : (Lit.int .i64 a2).wf = true) (w : World) :
    Calls Try.prog 7 #[.agg #[.int .i64 a0, .int .u64 b0, .int .u64 c0], .agg #[.int .i64 a1, .int .u64 b1, .int .u64 c1], .int .i64 a2] w fun e w' => e = .returned (.bool true) ∧ Below w.heap.size w w' := by
  obtain ⟨n0, hn0, r0⟩ := bits_rt (w := w) (M := fun _ => False) (a := a0) x0 y0
  obtain ⟨n1, hn1, r1⟩ := bits_rt (w := w) (M := fun _ => False) (a := a1) x1 y1
  refine Runs.calls (back_runs a0 n0 a1 n1 a2 hn0 hn1) ⟨_, Try.func7, rfl, rfl⟩ rfl fun i t v hi hv => ?_
  match i with
  | 0 => cases hi; cases hv; exact r0
  | 1 => cases hi; cases hv; exact r1
  | 2 => cases hi; cases hv; exact .int _ _
  | i + 3 => simp at hi

set_option maxRecDepth 100000 in
theorem lifted (os : Os) (started : os.Started) (H : Type) (enc : TypeId × Value → H) :
    ReturnsInHanded {} Try.checked os 7 .any (Rows.bvecBackSpec.pre6 enc Try.prog Try.f7 Rows.bvecBackRow.domain false) (Rows.bvecBackSpec.post enc Try.prog Try.f7 false true false false) := by
  refine returnsInHanded_of_change (C := Try.checked) own started (by kernel_rfl) Try.func7
    (ChangeSpec.witness6 (enc := enc) (C := Try.checked) false ⟨#[], #[.agg #[.int .i64 0, .int .u64 0, .int .u64 0], .agg #[.int .i64 0, .int .u64 0, .int .u64 0], .int .i64 0], []⟩ 8 (by kernel_rfl) (by kernel_rfl) (by kernel_rfl) (by kernel_rfl)) ?_
  intro W base args ds gs before hval0 hW hcnd _
  have hval : ∀ (j : Nat) t v, Try.f7.params[j]? = some t → args[j]? = some v → Value.okWide Try.prog W .any base t v := hval0
  have hW' := hW
  obtain ⟨p, q, hA0, hV, rfl, hfz, hnd⟩ := hW
  have hA : DataW.TrodAll enc Try.prog W 0 (fun _ => true) true Try.f7.params.toList args.toList ds p := hA0
  rw [Try.params7] at hA hval
  obtain ⟨v0, vs0, d0, ds0, p0, q0, hargs, rfl, rfl, h0, r0⟩ := trodAll_cons hA
  obtain ⟨v1, vs1, d1, ds1, p1, q1, rfl, rfl, rfl, h1, r1⟩ := trodAll_cons r0
  obtain ⟨v2, vs2, d2, ds2, p2, q2, rfl, rfl, rfl, h2, r2⟩ := trodAll_cons r1
  obtain ⟨rfl, rfl, rfl⟩ := trodAll_nil r2
  obtain rfl : args = #[v0, v1, v2] := by cases args; simp_all
  obtain ⟨rfl, rfl⟩ := trodVars_none hV
  obtain ⟨a0, b0, c0, rfl, rfl, rfl, w0, x0, y0⟩ := open_three bitsFld (hval 0 25 v0 rfl rfl) h0
  obtain ⟨a1, b1, c1, rfl, rfl, rfl, w1, x1, y1⟩ := open_three bitsFld (hval 1 25 v1 rfl rfl) h1
  obtain ⟨a2, rfl, rfl, rfl, w2⟩ := open_int Try.underlying3 (hval 2 3 v2 rfl rfl) h2
  clear hA0 hval0
  refine (walk a0 b0 c0 a1 b1 c1 a2 w0 x0 y0 w1 x1 y1 w2 W).mono fun e W' ⟨he, bel⟩ => ?_
  subst he
  exact ⟨_, rfl, _, _, _, [], _, [], hW', trodAll_mk1 (shut_bool Try.underlying4 _), (trodAll_cons_mk (shut_three bitsFld w0 x0 y0) (trodAll_cons_mk (shut_three bitsFld w1 x1 y1) (trodAll_cons_mk (shut_int Try.underlying3 w2) trodAll_mk0))), rfl, bel.frame _, fun h => by cases h⟩

theorem over : Rows.bvecBackRow.holds Try.pinned (OpenSpec.ofChange Rows.bvecBackSpec) :=
  OpenClaim.holds_of_wide 7 Try.f7 rfl rfl rfl rfl rfl rfl rfl ⟨rfl, rfl, rfl, rfl, rfl⟩ rfl rfl rfl rfl rfl (by kernel_rfl) Try.func7 (by kernel_rfl)
    (of_decide_eq_true (by kernel_rfl)) (by unfold Func.isWrapper; first | (rw [if_pos (by decide +kernel)]; kernel_rfl) | (rw [if_neg (by decide +kernel)]; exact ⟨rfl, rfl⟩))
    (fun os started H enc _ => lifted os started H enc)

theorem proved : Rows.BvecBackSaid :=
  over
end Go.Proofs.Ytkjhkcpgkccocaa.bvecBack
