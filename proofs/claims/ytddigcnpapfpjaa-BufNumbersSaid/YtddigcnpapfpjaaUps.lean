/-
  The walk of 'dovetaillaw02.BufUps': true for every two numbers.
-/
import Derived.Test.YtddigcnpapfpjaaBuf
namespace Go.Proofs.Ytddigcnpapfpjaa
open Go.IntWalk
set_option maxRecDepth 100000
set_option linter.unusedVariables false
set_option linter.unusedSimpArgs false

theorem getR_flat (bs : List UInt8) (at_ n : Int) : Flat (getR bs at_ n) := by
  unfold getR; split <;> exact ⟨rfl, rfl, trivial⟩
theorem upR_flat (n to : Int) : Flat (upR n to) := by
  unfold upR; split <;> exact ⟨rfl, rfl, trivial⟩
theorem up_13_8 : upR 13 8 = .tup [.t (.int .i64 16), .t (.int .i64 0)] := by
  rw [upR, if_pos ⟨⟨by decide, by decide, 3, rfl⟩, by decide, by decide⟩]; rfl

theorem alive_runs : Runs Try.prog 7 [] (.t (.bool true)) := by
  refine Runs.of_call ?_ rfl
  refine CallS.of_fn tab_ok reg_ok Try.func7 rfl rfl ?_
  refine CallS.snap (get_runs [1, 2, 3] (by decide) 1 2) rfl (getR_flat _ _ _) ?_
  rw [show getR [1, 2, 3] 1 2 = .tup [.t (.int .u64 770), .t (.int .i64 0)] from rfl]
  refine CallS.pure (up_runs 13 8 (by decide)) rfl ?_
  rw [up_13_8]
  exact And.intro rfl rfl

/-- Is it one of the first powers of two? -/
def pw (to : Int) : Nat → Bool
  | 0 => false
  | i + 1 => pw to i || (((2 ^ i : Nat) : Int) == to)

theorem pw_iff (to : Int) : ∀ i, pw to i = true ↔ ∃ j, j < i ∧ to = ((2 ^ j : Nat) : Int)
  | 0 => by simp [pw]
  | i + 1 => by
    simp only [pw, Bool.or_eq_true, pw_iff to i, beq_iff_eq]
    constructor
    · rintro (⟨j, h1, h2⟩ | h)
      · exact ⟨j, by omega, h2⟩
      · exact ⟨i, by omega, h.symm⟩
    · rintro ⟨j, h1, h2⟩
      by_cases e : j = i
      · subst e; exact .inr h2.symm
      · exact .inl ⟨j, by omega, h2⟩

theorem pw31 (to : Int) : pw to 31 = true ↔ 1 ≤ to ∧ to ≤ 1073741824 ∧ ∃ j, to.toNat = 2 ^ j := by
  rw [pw_iff]
  constructor
  · rintro ⟨j, hj, rfl⟩
    have h1 : 2 ^ j ≤ 2 ^ 30 := Nat.pow_le_pow_right (by omega) (by omega)
    have h2 : 0 < 2 ^ j := Nat.pow_pos (by omega)
    exact ⟨by omega, by omega, j, by omega⟩
  · rintro ⟨h1, h2, j, hj⟩
    refine ⟨j, ?_, by omega⟩
    rcases Nat.lt_or_ge j 31 with h | h
    · exact h
    · have : 2 ^ 31 ≤ 2 ^ j := Nat.pow_le_pow_right (by omega) h
      omega

theorem le30 (i : Nat) : ((2 ^ i : Nat) : Int) ≤ 1073741824 ↔ i ≤ 30 := by
  rw [show (1073741824 : Int) = ((2 ^ 30 : Nat) : Int) from rfl, Int.ofNat_le, Nat.pow_le_pow_iff_right (by omega)]

theorem refUp_runs (n to : Int) (hn : -9223372036854775808 ≤ n) : Runs Try.prog 8 [.int .i64 n, .int .i64 to] (upR n to) := by
  refine Runs.of_call ?_ (by unfold upR; split <;> rfl)
  refine CallS.of_fn tab_ok reg_ok Try.func8 rfl rfl ?_
  refine loop_on (fun i : Nat => i ≤ 31) (fun i => ⟨[(0, .t (.int .i64 n)), (1, .t (.int .i64 to)), (6, .t (.bool (pw to i))), (7, .t (.int .i64 ((2 ^ i : Nat) : Int)))], []⟩)
    (fun i => 31 - i) 0 (by omega) (weak_of ⟨rfl, rfl, rfl, rfl, trivial⟩ rfl) (fun i hi => ?_)
  have hnext : i ≤ 30 → IntKind.i64.wrap (((2 ^ i : Nat) : Int) * 2) = ((2 ^ (i + 1) : Nat) : Int) := fun h => by
    have h1 : 2 ^ i ≤ 2 ^ 30 := Nat.pow_le_pow_right (by omega) h
    rw [Nat.pow_succ]
    generalize 2 ^ i = p at h1 ⊢
    rw [i64_in _ (by omega)]
    omega
  refine br_intro (fun h => ?_) (fun h => ?_)
  · have h := (le30 i).1 (of_decide_eq_true h)
    refine br_intro (fun h2 => ?_) (fun h2 => ?_)
    · refine ⟨⟨i + 1, by omega⟩, weak_of ⟨rfl, rfl, ?_, ?_, trivial⟩ rfl, by show 31 - (i + 1) < 31 - i; omega⟩
      · exact congrArg (fun x => AV.t (.bool x)) (by show true = pw to (i + 1); simp [pw, h2])
      · exact congrArg (fun x => AV.t (.int .i64 x)) (hnext h)
    · refine ⟨⟨i + 1, by omega⟩, weak_of ⟨rfl, rfl, ?_, ?_, trivial⟩ rfl, by show 31 - (i + 1) < 31 - i; omega⟩
      · exact congrArg (fun x => AV.t (.bool x)) (by show (((2 ^ i : Nat) : Int) == to) = pw to (i + 1); simp [pw, h2])
      · exact congrArg (fun x => AV.t (.int .i64 x)) (hnext h)
  · have h := of_decide_eq_false h
    rw [le30] at h
    obtain rfl : i = 31 := by omega
    refine br_intro (fun h2 => ?_) (fun h2 => ?_)
    · have h2 : ¬ pw to 31 = true := by simpa using h2
      rw [upR, if_neg (fun hh => h2 ((pw31 to).2 hh.1))]
      exact And.intro ⟨rfl, rfl, trivial⟩ rfl
    have h2 : pw to 31 = true := by simpa using h2
    have h2' := (pw31 to).1 h2
    refine br_intro (fun h3 => ?_) (fun h3 => ?_)
    · have h3 := of_decide_eq_true h3
      rw [upR, if_neg (fun hh => by have := hh.2.1; omega)]
      exact And.intro ⟨rfl, rfl, trivial⟩ rfl
    have h3 := of_decide_eq_false h3
    refine br_intro (fun h4 => ?_) (fun h4 => ?_)
    · have h4 := of_decide_eq_true h4
      rw [upR, if_neg (fun hh => by have := hh.2.2; omega)]
      exact And.intro ⟨rfl, rfl, trivial⟩ rfl
    have h4 := of_decide_eq_false h4
    have hm : n.tmod to = n % to := rem_in _ _ (by omega)
    have hm1 := Int.emod_nonneg n (show to ≠ 0 by omega)
    have hm2 := Int.emod_lt_of_pos n (show 0 < to by omega)
    rw [upR, if_pos ⟨h2', by omega, by omega⟩]
    refine ck_intro (by simp; omega) ?_
    refine br_intro (fun h5 => ?_) (fun h5 => ?_)
    · have h5 : n % to = 0 := by rw [← hm]; exact eq_of_beq h5
      rw [if_pos h5]
      exact And.intro ⟨rfl, rfl, trivial⟩ rfl
    · have h5 : ¬ n % to = 0 := by rw [← hm]; exact ne_of_beq_false h5
      rw [if_neg h5]
      refine ck_intro (by simp; omega) ?_
      refine And.intro ⟨?_, rfl, trivial⟩ rfl
      have e : IntKind.i64.wrap (IntKind.i64.wrap (n - n.tmod to) + to) = n - n % to + to := by
        rw [hm, i64_in (n - n % to) (by omega), i64_in _ (by omega)]
      rw [← e]
      rfl

theorem upsLaw (n to : Int) (hn : -9223372036854775808 ≤ n) (hto : -9223372036854775808 ≤ to) : Runs Try.prog 3 [.int .i64 n, .int .i64 to] (.t (.bool true)) := by
  refine Runs.of_call ?_ rfl
  refine CallS.of_fn tab_ok reg_ok Try.func3 rfl rfl ?_
  refine CallS.pure alive_runs rfl ?_
  refine CallS.pure (refUp_runs n to hn) rfl ?_
  have hup := up_runs n to hto
  by_cases hok : upOK n to
  · rw [upR, if_pos hok] at hup ⊢
    obtain ⟨⟨h1, h2, -⟩, h3, h4⟩ := hok
    refine CallS.pure hup rfl ?_
    have hm1 := Int.emod_nonneg n (show to ≠ 0 by omega)
    have hm2 := Int.emod_lt_of_pos n (show 0 < to by omega)
    generalize hm : (if n % to = 0 then n else n - n % to + to) = m
    have hdiv : m % to = 0 := by
      rw [← hm]
      split
      · assumption
      · rw [Int.add_emod_right, Int.sub_emod, Int.emod_emod, Int.sub_self]; rfl
    have hge : n ≤ m ∧ m - n < to ∧ 0 ≤ m := by rw [← hm]; split <;> omega
    refine br_intro (fun h5 => ?_) (fun h5 => ?_)
    · refine br_intro (fun h6 => ?_) (fun h6 => ?_)
      · refine br_intro (fun h7 => ?_) (fun h7 => ?_)
        · refine ck_intro (by simp; omega) ?_
          have e : (m.tmod to == 0) = true := by rw [rem_in _ _ hge.2.2, hdiv]; rfl
          exact And.intro (congrArg (fun b => some (T.bool b)) e) rfl
        · rw [i64_in _ (by omega)] at h7
          have := of_decide_eq_false h7
          omega
      · have := of_decide_eq_false h6
        omega
    · simp at h5
  · rw [upR, if_neg hok] at hup ⊢
    refine CallS.pure hup rfl ?_
    exact And.intro rfl rfl

end Go.Proofs.Ytddigcnpapfpjaa
