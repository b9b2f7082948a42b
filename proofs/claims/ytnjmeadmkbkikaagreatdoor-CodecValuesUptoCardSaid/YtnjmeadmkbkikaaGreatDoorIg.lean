/-
  Clones of rows, told as data (walk).
-/
import Derived.Test.YtnjmeadmkbkikaaGreatDoorIf
namespace Go.Proofs.YtnjmeadmkbkikaaGreatDoor
open Go.IntWalk
set_option maxRecDepth 100000
set_option linter.unusedVariables false
set_option linter.unusedSimpArgs false
set_option maxHeartbeats 4000000

theorem RunsX.vecd1 {P : Program} {f : FuncId} {s : Nat} {l : List T} {S : AV → Prop} (h : RunsX P f [.vec s l] S) (h0 : l = [] → RunsX P f [.nils] S) : RunsX P f [.vecd s l] S := by
  refine ⟨h.1, fun n F w vs hF hl hr => ?_⟩
  match vs, hl with
  | ⟨[v]⟩, _ =>
    rcases vecd_cases (hr 0 _ v rfl rfl) with ⟨hn, rfl⟩ | hv
    · refine (h0 hn).2 n F w _ hF rfl fun i t v hi hv => ?_
      match i, hi, hv with
      | 0, hi, hv => cases hi; cases hv; exact .nils
      | i + 1, hi, hv => simp at hi
    · refine h.2 n F w _ hF rfl fun i t v hi hv' => ?_
      match i, hi, hv' with
      | 0, hi, hv' => cases hi; cases hv'; exact hv
      | i + 1, hi, hv' => simp at hi

def DataS (t : T) (r : AV) : Prop := r = .t t
theorem cloneI_runs (M : List T) (h : M.length ≤ 100000000000) : RunsX Tryz.prog 34 [.vecd 1 M] (DataS (.vecd 1 M)) := by
  refine RunsX.vecd1 ?_ (fun h0 => ?_)
  · refine RunsX.of_call ?_ (by rintro r rfl; rfl)
    refine CallS.of_fn tabS_ok regS_ok Tryz.func34 rfl rfl ?_
    refine Or.inl (And.intro rfl (ck_intro (fits8 (n := 0 + M.length) (by omega)) ?_))
    refine ⟨_, rfl, _, _, rfl, ?_⟩
    exact .trans _ _ _ (.of_eq (congrArg (T.vec 1) (show List.take (0 + M.length) (List.drop 0 ([] ++ M)) = M by simp))) (.vec 1 _)
  · subst h0
    refine RunsX.of_call ?_ (by rintro r rfl; rfl)
    refine CallS.of_fn tabS_ok regS_ok Tryz.func34 rfl rfl ?_
    exact ⟨_, rfl, _, _, rfl, .refl _⟩

theorem cloneA_runs (A : List ArgD) (h : A.length ≤ 1000000) : RunsX Tryz.prog 35 [.vecd 2 (A.map argT)] (DataS (.vecd 2 (A.map argT))) := by
  refine RunsX.vecd1 ?_ (fun h0 => ?_)
  · refine RunsX.of_call ?_ (by rintro r rfl; rfl)
    refine CallS.of_fn tabS_ok regS_ok Tryz.func35 rfl rfl ?_
    refine Or.inl (And.intro rfl (ck_intro (show fitsRow (0 + (A.map argT).length) 24 = true by simp [fitsRow]; omega) ?_))
    refine ⟨_, rfl, _, _, rfl, ?_⟩
    exact .trans _ _ _ (.of_eq (congrArg (T.vec 2) (show List.take (0 + (A.map argT).length) (List.drop 0 ([] ++ A.map argT)) = A.map argT from List.take_of_length_le (by simp)))) (.vec 2 _)
  · have h0 : A = [] := by simpa using h0
    subst h0
    refine RunsX.of_call ?_ (by rintro r rfl; rfl)
    refine CallS.of_fn tabS_ok regS_ok Tryz.func35 rfl rfl ?_
    exact ⟨_, rfl, _, _, rfl, .refl _⟩

end Go.Proofs.YtnjmeadmkbkikaaGreatDoor
