/-
  Of an executable's file the front alone is not well-formed; bytes behind make no difference.
-/
import Derived.Test.YthpkehhghcpolaaDoorEy4
namespace Go.Proofs.YthpkehhghcpolaaDoor
open Go.IntWalk
set_option maxRecDepth 100000
set_option linter.unusedVariables false
set_option linter.unusedSimpArgs false

theorem fits1w {n : Nat} (h : n ≤ 211106232532992) : fitsRow n 1 = true := by simp [fitsRow]; omega

theorem take_own (l : List T) : (l.drop 0).take l.length = l := by simp

set_option maxHeartbeats 400000 in
theorem front_walk {x : ExeD} (hb : ExeB x) (cut : Int) (hc : -9223372036854775808 ≤ cut ∧ cut ≤ 9223372036854775807) (R M : List T) (hR : R.length ≤ 67108864) (hM : M.length ≤ 140737488351232)
    (hlen : 64 + 56 * (x.ss.length + x.ts.length) ≤ R.length)
    (hw : Runs Tryd.prog 11 [exeT x] (.tup [.own 5 1 false R, .t (.int .i64 0)]))
    (hC : Runs Tryd.prog 17 [.vec 1 (R ++ M)] (.t (.int .i64 0)))
    (hD : ∀ c : Nat, c < 64 + 56 * (x.ss.length + x.ts.length) → ∃ k : Int, (k != 0) = true ∧ Runs Tryd.prog 17 [.vec 1 (R.take c)] (.t (.int .i64 k))) :
    Runs Tryd.prog 9 [exeT x, .int .i64 cut, .vecd 1 M] (.t (.bool true)) := by
  refine Runs.of_call ?_ rfl
  refine CallS.of_fn tabS_ok regS_ok Tryd.func9 rfl rfl ?_
  refine CallS.pure gabiAlive_runs rfl ?_
  refine CallS.frzG (copy_runs' hb) rfl ⟨.refl _, trivial⟩ ?_
  refine CallS.pure hw rfl ?_
  have e1 : ((Sq.ts R).part 0 R.length) = Sq.ts R := by simp [Sq.part]
  have l1 : 0 + ((Sq.ts R).part 0 R.length).length = R.length := by rw [e1]; simp [Sq.length]
  obtain ⟨n1, hn1⟩ : ∃ n, n = 0 + ((Sq.ts R).part 0 R.length).length := ⟨_, rfl⟩
  refine Or.inl (And.intro rfl (ck_intro (show fitsRow (0 + ((Sq.ts R).part 0 R.length).length) 1 = true from by rw [← hn1]; exact fits1w (by omega)) ?_))
  have s0 : seqOf [] = Sq.ts [] := rfl
  have l2 : 0 + ((Sq.ts R).part 0 R.length).length = ((seqOf []).app ((Sq.ts R).part 0 R.length)).length := by rw [s0, e1]; simp [Sq.length, Sq.app]
  have l3 : 0 + ((Sq.ts R).part 0 R.length).length + (Sq.ts M).length = R.length + M.length := by rw [l1]; rfl
  obtain ⟨n2, hn2⟩ : ∃ n, n = 0 + ((Sq.ts R).part 0 R.length).length + (Sq.ts M).length := ⟨_, rfl⟩
  refine Or.inl (And.intro l2 (ck_intro (show fitsRow (0 + ((Sq.ts R).part 0 R.length).length + (Sq.ts M).length) 1 = true from by rw [← hn2]; exact fits1w (by omega)) ?_))
  have e2 : (((seqOf []).app ((Sq.ts R).part 0 R.length)).app (Sq.ts M)) = Sq.ts (R ++ M) := by rw [s0, e1]; simp [Sq.app]
  refine CallS.snapG hC rfl ⟨.of_eq (congrArg (T.vec 1) (by rw [l3]; simp only [List.drop_zero, List.nil_append, List.take_length]; exact List.take_of_length_le (by simp))), trivial⟩ (show flatT (.int .i64 _) = true from rfl) ?_
  refine br_intro (fun c => ?_) (fun c => ?_)
  · exact And.intro rfl rfl
  have c : ¬ cut < 0 := by simpa using c
  have hs1 := hb.sl
  have hs2 := hb.tl
  obtain ⟨n3, hn3⟩ : ∃ n : Nat, n = x.ss.length + x.ts.length := ⟨_, rfl⟩
  refine st_intro (n := (n3 : Int)) ((i64_in _ (by simp; omega)).trans (by simp; omega)) ?_
  obtain ⟨n4, hn4⟩ : ∃ n : Nat, n = 56 * n3 := ⟨_, rfl⟩
  refine st_intro (n := (n4 : Int)) ((i64_in _ (by omega)).trans (by omega)) ?_
  obtain ⟨n5, hn5⟩ : ∃ n : Nat, n = 64 + n4 := ⟨_, rfl⟩
  refine st_intro (n := (n5 : Int)) ((i64_in _ (by omega)).trans (by omega)) ?_
  refine br_intro (fun c1 => ?_) (fun c1 => ?_)
  · exact And.intro rfl rfl
  have c1 : ¬ cut ≥ (n5 : Int) := by simpa using c1
  have h0 : 0 ≤ cut ∧ cut.toNat < n5 := by omega
  refine ck_intro (show (decide (0 ≤ cut) && decide (cut ≤ (R.length : Int))) = true from by simp; omega) ?_
  have e5 : (Sq.ts R).part (0 + 0) (cut.toNat - 0) = Sq.ts (R.take cut.toNat) := by simp [Sq.part]
  have l5 : 0 + ((Sq.ts R).part (0 + 0) (cut.toNat - 0)).length = cut.toNat := by rw [e5]; simp [Sq.length]; omega
  obtain ⟨n6, hn6⟩ : ∃ n, n = 0 + ((Sq.ts R).part (0 + 0) (cut.toNat - 0)).length := ⟨_, rfl⟩
  refine Or.inl (And.intro rfl (ck_intro (show fitsRow (0 + ((Sq.ts R).part (0 + 0) (cut.toNat - 0)).length) 1 = true from by rw [← hn6]; exact fits1w (by omega)) ?_))
  obtain ⟨k, hk, hR2⟩ := hD cut.toNat (by omega)
  refine CallS.snapG hR2 rfl ⟨.of_eq (congrArg (T.vec 1) (by rw [l5]; simp [List.take_take])), trivial⟩ (show flatT (.int .i64 _) = true from rfl) ?_
  exact And.intro (congrArg (fun b => some (T.bool b)) hk) rfl

theorem frontRuns {x : ExeD} (hb : ExeB x) (cut : Int) (hc : -9223372036854775808 ≤ cut ∧ cut ≤ 9223372036854775807) (more : List UInt8) (hm : more.length ≤ 140737488351232) :
    Runs Tryd.prog 9 [exeT x, .int .i64 cut, .vecd 1 (U more)] (.t (.bool true)) := by
  rcases write_cases hb with ⟨n, hn, hw⟩ | ⟨h, hh, hl, hw⟩
  · refine Runs.of_call ?_ rfl
    refine CallS.of_fn tabS_ok regS_ok Tryd.func9 rfl rfl ?_
    refine CallS.pure gabiAlive_runs rfl ?_
    refine CallS.frzG (copy_runs' hb) rfl ⟨.refl _, trivial⟩ ?_
    rcases hn with rfl | rfl
    · refine CallS.pure hw rfl ?_
      exact And.intro rfl rfl
    · refine CallS.pure hw rfl ?_
      exact And.intro rfl rfl
  · have hns : (hdsOf x).length = x.ss.length + x.ts.length := hds_len x
    have hC := check_g (fileL x ++ more) (by rw [List.length_append]; omega)
    rw [file_answer x more h (by omega) hl, U_app] at hC
    refine front_walk hb cut hc (U (fileL x)) (U more) (by rw [U_len]; exact hl) (by rw [U_len]; exact hm) ?_ hw hC (fun c hc => ?_)
    · rw [U_len, fileL_len, ← hns]
      have := end_le (hdsOf x) (64 + 56 * (hdsOf x).length)
      exact this
    · have hD := check_g ((fileL x).take c) (by rw [List.length_take]; omega)
      rw [← U_take] at hD
      exact ⟨_, by have := file_cut x (by omega) c (by omega); simpa using this, hD⟩

theorem frontLaw (c0 : List T) (h0 : HasT Tryd.prog 25 c0) (c1 : List T) (h1 : HasT Tryd.prog 3 c1) (c2 : List T) (h2 : HasT Tryd.prog 27 c2) :
    Runs Tryd.prog 9 [argOf Tryd.prog 25 c0, argOf Tryd.prog 3 c1, argOf Tryd.prog 27 c2] (.t (.bool true)) := by
  obtain ⟨x, hb, hs⟩ := exe_arg h0
  obtain ⟨n, rfl, hw⟩ := h1.int' Tryd.underlying3
  rcases bytes_arg h2 with e | ⟨bs, hl, e⟩
  · rw [e]; exact (frontRuns hb n (i64_wf hw) [] (by simp)).sub ⟨hs, .refl _, .nils 1, trivial⟩
  · rw [e]; exact (frontRuns hb n (i64_wf hw) bs hl).sub ⟨hs, .refl _, .vec 1 _, trivial⟩

end Go.Proofs.YthpkehhghcpolaaDoor
