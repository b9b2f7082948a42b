/-
  The law on texts, for whatever bytes and place.
-/
import Derived.Test.YtddigcnpapfpjaaPut
import Derived.Test.YtddigcnpapfpjaaOpn
namespace Go.Proofs.Ytddigcnpapfpjaa
open Go.IntWalk
set_option maxRecDepth 100000
set_option linter.unusedVariables false
set_option linter.unusedSimpArgs false

theorem bytes_arg {cs : List T} (h : HasT Try.prog 29 cs) : (argOf Try.prog 29 cs = .nils) ∨ ∃ bs : List UInt8, bs.length ≤ 140737488351232 ∧ argOf Try.prog 29 cs = .vec 1 (U bs) := by
  rcases h.bytes' Try.underlying29 Try.underlying5 (by kernel_rfl) (by kernel_rfl) with rfl | ⟨bs, hl, rfl⟩
  · exact .inl rfl
  · exact .inr ⟨bs, hl, rfl⟩

theorem int_arg {cs : List T} (h : HasT Try.prog 3 cs) : ∃ n : Int, argOf Try.prog 3 cs = .int .i64 n ∧ -9223372036854775808 ≤ n ∧ n ≤ 9223372036854775807 := by
  obtain ⟨n, rfl, hw⟩ := h.int' Try.underlying3
  exact ⟨n, rfl, i64_wf hw⟩

theorem textR_of (bs : List UInt8) (at_ : Int) : ∃ s e, textR bs at_ = .tup [.t (.str s), .t (.int .i64 e)] := by
  unfold textR; split <;> exact ⟨_, _, rfl⟩

theorem textsLaw (c0 : List T) (h0 : HasT Try.prog 29 c0) (c1 : List T) (h1 : HasT Try.prog 3 c1) :
    Runs Try.prog 4 [argOf Try.prog 29 c0, argOf Try.prog 3 c1] (.t (.bool true)) := by
  obtain ⟨n, e1, hn⟩ := int_arg h1
  rw [e1]
  rcases bytes_arg h0 with e0 | ⟨bs, hb, e0⟩
  · rw [e0]
    refine Runs.of_call ?_ rfl
    refine CallS.of_fn tab_ok reg_ok Try.func4 rfl rfl ?_
    refine CallS.pure alive_runs rfl ?_
    obtain ⟨s, e, hr⟩ := textR_of [] n
    have hf := textR_flat [] n
    have hA := refTextNil_runs n
    have hB := text_runs [] (by decide) n
    rw [hr] at hA hB hf
    refine CallS.pure hA rfl ?_
    refine Or.inl (And.intro rfl (ck_intro (by decide) ?_))
    refine CallS.snap hB rfl hf ?_
    refine br_intro (fun h => ?_) (fun h => ?_)
    · exact And.intro (congrArg (fun b => some (T.bool b)) (by simp)) rfl
    · simp at h
  · rw [e0]
    refine Runs.of_call ?_ rfl
    refine CallS.of_fn tab_ok reg_ok Try.func4 rfl rfl ?_
    refine CallS.pure alive_runs rfl ?_
    obtain ⟨s, e, hr⟩ := textR_of bs n
    have hf := textR_flat bs n
    have hA := refText_runs bs (by omega) n
    have hB := text_runs bs (by omega) n
    rw [hr] at hA hB hf
    refine CallS.pure hA rfl ?_
    refine Or.inl (And.intro rfl (ck_intro (fits1 (n := 0 + (U bs).length) (by rw [U_len]; omega)) ?_))
    have ht : List.take (0 + (U bs).length) (List.drop 0 ([] ++ U bs)) = U bs := by simp
    rw [← ht] at hB
    refine CallS.snap hB rfl hf ?_
    refine br_intro (fun h => ?_) (fun h => ?_)
    · exact And.intro (congrArg (fun b => some (T.bool b)) (by simp)) rfl
    · simp at h

end Go.Proofs.Ytddigcnpapfpjaa
