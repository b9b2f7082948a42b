/-
  The law on checks, for whatever bytes.
-/
import Derived.Test.YthpkehhghcpolaaDoorCkc
import Derived.Test.YthpkehhghcpolaaDoorGAg
import Derived.Test.YthpkehhghcpolaaDoorFb
namespace Go.Proofs.YthpkehhghcpolaaDoor
open Go.IntWalk
set_option maxRecDepth 100000
set_option linter.unusedVariables false
set_option linter.unusedSimpArgs false

theorem bytes_arg {cs : List T} (h : HasT Tryd.prog 27 cs) : (argOf Tryd.prog 27 cs = .nils) ∨ ∃ bs : List UInt8, bs.length ≤ 140737488351232 ∧ argOf Tryd.prog 27 cs = .vec 1 (U bs) := by
  rcases h.bytes' Tryd.underlying27 Tryd.underlying5 (by kernel_rfl) (by kernel_rfl) with rfl | ⟨bs, hl, rfl⟩
  · exact .inl rfl
  · exact .inr ⟨bs, hl, rfl⟩

theorem fits1 {n : Nat} (h : n ≤ 140737488355328) : fitsRow n 1 = true := by simp [fitsRow]; omega

theorem same_runs (a : List UInt8) {x : T} {b : List UInt8} (hx : BX x b) : Runs Tryd.prog 19 [.vec 1 (U a), x] (.t (.bool (a == b))) := by
  cases hx with
  | vec b L e =>
    subst e
    refine Runs.of_call ?_ rfl
    refine CallS.of_fn tab_ok reg_ok Tryd.func19 rfl rfl ?_
    refine ⟨a, rfl, ?_⟩
    refine ⟨b, rfl, ?_⟩
    exact And.intro rfl rfl
  | nil =>
    refine Runs.of_call ?_ rfl
    refine CallS.of_fn tab_ok reg_ok Tryd.func19 rfl rfl ?_
    refine ⟨a, rfl, ?_⟩
    exact And.intro rfl rfl

theorem answer_nil : answer [] = 191 := by
  unfold answer
  rw [if_pos (fun h => by have := h.1.1; simp at this)]

theorem check_nil : Runs Tryd.prog 18 [.nils] (.t (.int .i64 191)) := by
  have hh : Runs Tryd.prog 43 [.nils] (.t (.bool false)) := by
    refine Runs.of_call ?_ rfl
    refine CallS.of_fn tab_ok reg_ok Tryd.func43 rfl rfl ?_
    exact And.intro rfl rfl
  refine Runs.of_call ?_ rfl
  refine CallS.of_fn tab_ok reg_ok Tryd.func18 rfl rfl ?_
  refine CallS.pure hh rfl ?_
  exact And.intro rfl rfl

theorem checksLaw (c0 : List T) (h0 : HasT Tryd.prog 27 c0) :
    Runs Tryd.prog 5 [argOf Tryd.prog 27 c0] (.t (.bool true)) := by
  rcases bytes_arg h0 with e0 | ⟨bs, hb, e0⟩
  · rw [e0]
    refine Runs.of_call ?_ rfl
    refine CallS.of_fn tab_ok reg_ok Tryd.func5 rfl rfl ?_
    refine CallS.pure gabiAlive_runs rfl ?_
    refine Or.inl (And.intro rfl (ck_intro (by decide) ?_))
    have hC := check_g [] (by decide)
    rw [answer_nil] at hC
    refine CallS.snap hC rfl (show flatT (.int .i64 _) = true from rfl) ?_
    refine CallS.pure check_nil rfl ?_
    refine CallS.snap (same_runs [] .nil) rfl (show flatT (.bool _) = true from rfl) ?_
    exact And.intro rfl rfl
  · rw [e0]
    have hC := check_g bs hb
    have hR := check_r bs hb
    have hS := same_runs bs (.vec bs (U bs) rfl)
    rw [show (bs == bs) = true by simp] at hS
    have ht : List.take (0 + (U bs).length) (List.drop 0 ([] ++ U bs)) = U bs := by simp
    generalize answer bs = an at hC hR
    rw [← ht] at hC
    refine Runs.of_call ?_ rfl
    refine CallS.of_fn tab_ok reg_ok Tryd.func5 rfl rfl ?_
    refine CallS.pure gabiAlive_runs rfl ?_
    refine Or.inl (And.intro rfl (ck_intro (fits1 (n := 0 + (U bs).length) (by rw [U_len]; omega)) ?_))
    refine CallS.snap hC rfl (show flatT (.int .i64 _) = true from rfl) ?_
    refine CallS.pure hR rfl ?_
    refine br_intro (fun h => ?_) (fun h => ?_)
    · have hS' : Runs Tryd.prog 19 [.vec 1 (List.take (0 + (U bs).length) (List.drop 0 ([] ++ U bs))), .vec 1 (U bs)] (.t (.bool true)) := by rw [ht]; exact hS
      refine CallS.snap hS' rfl (show flatT (.bool _) = true from rfl) ?_
      exact And.intro rfl rfl
    · have h : (an == an) = false := h
      simp at h

end Go.Proofs.YthpkehhghcpolaaDoor
