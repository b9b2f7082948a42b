/-
  The sections of a file: the document's function; the two programs' answers on a file.
-/
import Derived.Test.YthpkehhghcpolaaDoorCkb
namespace Go.Proofs.YthpkehhghcpolaaDoor
open Go.IntWalk
set_option maxRecDepth 100000
set_option linter.unusedVariables false
set_option linter.unusedSimpArgs false

/-! ### The answers -/

open Classical in
noncomputable def answer (bs : List UInt8) : Int := if ¬ hdP bs then 191 else if ¬ tbP bs then 192 else if sgB bs = false then 193 else if ¬ seP bs then 194 else 0

theorem tb_ok {bs : List UInt8} (h : tbP bs) : gN bs 60 2 = 0 ∨ gN bs 62 2 < gN bs 60 2 := h.2.2

theorem check_g (bs : List UInt8) (hb : bs.length ≤ 211106232532992) : Runs Tryd.prog 17 [.vec 1 (U bs)] (.t (.int .i64 (answer bs))) := by
  refine Runs.of_call ?_ rfl
  refine CallS.of_fn tab_ok reg_ok Tryd.func17 rfl rfl ?_
  unfold answer
  refine CallS.pure (head_g bs hb) rfl ?_
  refine br_intro (fun c => ?_) (fun c => ?_)
  · rw [if_pos (of_decide_eq_false (nb c))]
    exact And.intro rfl rfl
  have c := of_decide_eq_true (nb' c)
  rw [if_neg (fun h => h c)]
  refine CallS.pure (tables_g bs hb) rfl ?_
  refine br_intro (fun c2 => ?_) (fun c2 => ?_)
  · rw [if_pos (of_decide_eq_false (nb c2))]
    exact And.intro rfl rfl
  have c2 := of_decide_eq_true (nb' c2)
  rw [if_neg (fun h => h c2)]
  refine CallS.pure (segments_g bs hb) rfl ?_
  refine br_intro (fun c3 => ?_) (fun c3 => ?_)
  · rw [if_pos (nb c3)]
    exact And.intro rfl rfl
  have c3 := nb' c3
  rw [if_neg (by rw [c3]; simp)]
  refine CallS.pure (right_g bs hb (tb_ok c2)) rfl ?_
  refine br_intro (fun c4 => ?_) (fun c4 => ?_)
  · rw [if_pos (of_decide_eq_false (nb c4))]
    exact And.intro rfl rfl
  have c4 := of_decide_eq_true (nb' c4)
  rw [if_neg (fun h => h c4)]
  exact And.intro rfl rfl

end Go.Proofs.YthpkehhghcpolaaDoor
