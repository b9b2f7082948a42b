/-
  Memory that is only read: the byte at an address, bytes, numbers.
-/
import Derived.Test.YthdgpfegjdfpkaaMs
namespace Go.Proofs.Ythdgpfegjdfpkaa
open Go.IntWalk
set_option maxRecDepth 100000
set_option linter.unusedVariables false
set_option linter.unusedSimpArgs false
set_option maxHeartbeats 2000000

theorem ix0 {i : Int} {b : Bool} (hb : b = true) (h : 0 ≤ i) : (b && decide (0 ≤ i)) = true := by rw [hb, decide_eq_true h]; rfl

/-- What a comparison of two numbers answers. -/
def cmpV (n m : Int) : Int := if n < m then -1 else if n > m then 1 else 0
theorem compare_eq (n m : Int) : Runs Try.prog 15 [.int .u64 n, .int .u64 m] (.t (.int .i64 (cmpV n m))) := by
  have hc : cmpV n m = if n < m then -1 else if n > m then 1 else 0 := rfl
  refine Runs.of_call ?_ rfl
  refine CallS.of_fn tabS_ok regS_ok Try.func15 rfl rfl ?_
  refine CallS.pure (isNaN_runs n) rfl ?_
  refine CallS.pure (isNaN_runs m) rfl ?_
  refine br_intro (fun c1 => ?_) (fun c1 => ?_)
  · exact And.intro (congrArg (fun b => some (T.int .i64 b)) (by rw [hc, if_pos (of_decide_eq_true c1)])) rfl
  refine br_intro (fun c2 => ?_) (fun c2 => ?_)
  · exact And.intro (congrArg (fun b => some (T.int .i64 b)) (by rw [hc, if_neg (of_decide_eq_false c1), if_pos (of_decide_eq_true c2)])) rfl
  · exact And.intro (congrArg (fun b => some (T.int .i64 b)) (by rw [hc, if_neg (of_decide_eq_false c1), if_neg (of_decide_eq_false c2)])) rfl
theorem cmpV_lt {n m : Int} (h : decide (cmpV n m < 0) = true) : n < m := by
  have h := of_decide_eq_true h
  unfold cmpV at h
  repeat' split at h
  all_goals omega
theorem cmpV_eq {n m : Int} (h : (cmpV n m == 0) = true) : n = m := by
  have h : cmpV n m = 0 := by simpa using h
  unfold cmpV at h
  repeat' split at h
  all_goals omega

theorem at_runs (r : RegD) (a : Nat) : Runs Try.prog 24 [regT r, .int .u64 a] (.t (.int .i64 (cmpV (r.at_ : Int) (a : Int)))) := by
  refine Runs.of_call ?_ rfl
  refine CallS.of_fn tabS_ok regS_ok Try.func24 rfl rfl ?_
  refine CallS.pure (compare_eq (r.at_ : Int) (a : Int)) rfl ?_
  exact And.intro rfl rfl

/-- A region that memory may have. -/
def Fine (r : RegD) : Prop := r.at_ < 18446744073709551616 ∧ 1 ≤ r.bs.length ∧ r.at_ + r.bs.length ≤ 18446744073709551616

/-- The address behind a region, less one, as the program reckons it. -/
def lastW (r : RegD) : Int := IntKind.u64.wrap (IntKind.u64.wrap ((r.at_ : Int) + IntKind.u64.wrap (r.bs.length : Int)) - 1)
theorem lastW_fine {r : RegD} (h : Fine r) : lastW r = ((r.at_ + r.bs.length - 1 : Nat) : Int) := by
  obtain ⟨h1, h2, h3⟩ := h
  unfold lastW
  simp only [IntKind.wrap_u64]
  omega
theorem last_runs (r : RegD) : Runs Try.prog 11 [regT r] (.t (.int .u64 (lastW r))) := by
  have hl : (U r.bs).length = r.bs.length := U_len _
  obtain ⟨n0, h0⟩ : ∃ n, n = IntKind.u64.wrap (r.bs.length : Int) := ⟨_, rfl⟩
  obtain ⟨n1, h1⟩ : ∃ n, n = IntKind.u64.wrap ((r.at_ : Int) + n0) := ⟨_, rfl⟩
  obtain ⟨n2, h2⟩ : ∃ n, n = IntKind.u64.wrap (n1 - 1) := ⟨_, rfl⟩
  have e : lastW r = n2 := by rw [h2, h1, h0]; rfl
  rw [e]
  refine Runs.of_call ?_ rfl
  refine CallS.of_fn tabS_ok regS_ok Try.func11 rfl rfl ?_
  refine st_intro (n := n0) (by rw [hl, h0]) ?_
  refine st_intro (n := n1) h1.symm ?_
  refine st_intro (n := n2) h2.symm ?_
  exact And.intro rfl rfl

abbrev atF : T := .fn (.func 24) [] []
/-- Where the search for an address ends. -/
def srchI (R : List RegD) (a i j : Nat) : Nat :=
  if h : i < j then
    match R[(i + j) / 2]? with
    | some r => if r.at_ < a then srchI R a ((i + j) / 2 + 1) j else srchI R a i ((i + j) / 2)
    | none => i
  else i
termination_by j - i

theorem srchI_end {R : List RegD} {a i j : Nat} (h : j ≤ i) : srchI R a i j = i := by rw [srchI, dif_neg (by omega)]
theorem srchI_up {R : List RegD} {a i j h : Nat} (hh : h = (i + j) / 2) (hij : i < j) {r : RegD} (hr : R[h]? = some r) (hc : r.at_ < a) : srchI R a i j = srchI R a (h + 1) j := by
  rw [srchI, dif_pos hij, ← hh, hr]; simp only; rw [if_pos hc]
theorem srchI_dn {R : List RegD} {a i j h : Nat} (hh : h = (i + j) / 2) (hij : i < j) {r : RegD} (hr : R[h]? = some r) (hc : ¬ r.at_ < a) : srchI R a i j = srchI R a i h := by
  rw [srchI, dif_pos hij, ← hh, hr]; simp only; rw [if_neg hc]
theorem srchI_ok (R : List RegD) (a : Nat) : ∀ (k i j : Nat), j - i ≤ k → i ≤ j → j ≤ R.length → (0 < i → ∃ r, R[i - 1]? = some r ∧ r.at_ < a) →
    srchI R a i j ≤ R.length ∧ (0 < srchI R a i j → ∃ r, R[srchI R a i j - 1]? = some r ∧ r.at_ < a) := by
  intro k
  induction k with
  | zero => intro i j hk h1 h2 h3; rw [srchI_end (by omega)]; exact ⟨by omega, h3⟩
  | succ k ih =>
    intro i j hk h1 h2 h3
    by_cases hij : i < j
    · obtain ⟨h, hh⟩ : ∃ h, h = (i + j) / 2 := ⟨_, rfl⟩
      obtain ⟨r, hr, _⟩ := get_some (R := R) (i := h) (by omega)
      by_cases hc : r.at_ < a
      · rw [srchI_up hh hij hr hc]
        exact ih (h + 1) j (by omega) (by omega) h2 (fun _ => ⟨r, by simpa using hr, hc⟩)
      · rw [srchI_dn hh hij hr hc]
        exact ih i h (by omega) (by omega) (by omega) h3
    · rw [srchI_end (by omega)]; exact ⟨by omega, h3⟩

/-- Is the address that of the region found? -/
def srchF (R : List RegD) (a : Nat) : Bool := match R[srchI R a 0 R.length]? with | some r => r.at_ == a | none => false

theorem srch_runs (R : List RegD) (a : Nat) (hl : R.length ≤ 1000000) :
    Runs Try.prog 23 [.vecd 3 (R.map regT), .int .u64 a, atF] (.tup [.t (.int .i64 (srchI R a 0 R.length)), .t (.bool (srchF R a))]) := by
  obtain ⟨I, hI⟩ : ∃ I, I = srchI R a 0 R.length := ⟨_, rfl⟩
  obtain ⟨f, hf⟩ : ∃ f, f = srchF R a := ⟨_, rfl⟩
  obtain ⟨N, hN⟩ : ∃ N, N = R.length := ⟨_, rfl⟩
  have hok := srchI_ok R a N 0 N (by omega) (by omega) (by omega) (fun h => absurd h (by omega))
  rw [hN, ← hI] at hok
  have hmap : (R.map regT).length = N := by rw [List.length_map, hN]
  unfold srchF at hf
  rw [← hI] at hf
  rw [← hI, show srchF R a = f by rw [hf]; unfold srchF; rw [← hI]]
  refine Runs.of_call ?_ rfl
  refine CallS.of_fn tabS_ok regS_ok Try.func23 rfl rfl ?_
  refine loop_then (fun e s' => e = .exit 0 ∧ ∃ i j : Nat, (i = I) ∧ s' = ⟨[(17, .t (.bool (decide ((i : Int) < (j : Int))))), (16, .t (.int .i64 j)), (15, .t (.int .i64 i)), (0, .t (.vecd 3 (R.map regT))), (1, .t (.int .u64 a)), (2, .t atF), (8, .t (.int .i64 ((R.map regT).length : Int))), (9, .t (.int .i64 i)), (10, .t (.int .i64 j))], []⟩) (fun Q' hq => ?_) ?_
  · refine loop_on (fun s : Nat × Nat => s.1 ≤ s.2 ∧ s.2 ≤ N ∧ srchI R a s.1 s.2 = I) (fun s => ⟨[(0, .t (.vecd 3 (R.map regT))), (1, .t (.int .u64 a)), (2, .t atF), (8, .t (.int .i64 ((R.map regT).length : Int))), (9, .t (.int .i64 s.1)), (10, .t (.int .i64 s.2))], []⟩)
      (fun s => s.2 - s.1) (0, (R.map regT).length) ⟨Nat.zero_le _, by rw [hmap]; exact Nat.le_refl _, by rw [hmap, hI, hN]⟩ ?_ (fun ⟨i, j⟩ hi => ?_)
    · exact weak_of ⟨rfl, rfl, rfl, rfl, rfl, rfl, trivial⟩ rfl
    have hi : i ≤ j ∧ j ≤ N ∧ srchI R a i j = I := hi
    obtain ⟨hi1, hi2, hi3⟩ := hi
    refine br_intro (fun c => ?_) (fun c => ?_)
    · have c : i < j := dlt c
      obtain ⟨z, hz⟩ : ∃ z, z = i + j := ⟨_, rfl⟩
      obtain ⟨h, hh⟩ : ∃ h, h = z / 2 := ⟨_, rfl⟩
      have hh2 : h = (i + j) / 2 := by rw [hh, hz]
      refine st_intro (n := ((z : Nat) : Int)) ((nat_in (n := i + j) (by omega)).trans (by rw [hz])) ?_
      refine st_intro (n := ((z : Nat) : Int)) (nat_inu (n := z) (by omega)) ?_
      refine st_intro (n := ((h : Nat) : Int)) ((half_u (n := z) (by omega)).trans (by rw [hh])) ?_
      refine st_intro (n := ((h : Nat) : Int)) (nat_in (n := h) (by omega)) ?_
      obtain ⟨r, hr, hrm⟩ := get_some (R := R) (i := h) (by omega)
      refine ck_intro (ix0 (i := ((h : Nat) : Int)) rfl (by omega)) ?_
      refine opt_intro (show (R.map regT)[((h : Nat) : Int).toNat]? = some (regT r) from by rw [Int.toNat_natCast, List.getElem?_map, hr]; rfl) ?_
      refine CallS.pure (at_runs r a) rfl ?_
      refine br_intro (fun c2 => ?_) (fun c2 => ?_)
      · have c2 : r.at_ < a := by have := cmpV_lt c2; omega
        refine st_intro (n := ((h + 1 : Nat) : Int)) (nat_in (n := h + 1) (by omega)) ?_
        conv => whnf
        exact ⟨⟨(h + 1, j), ⟨by show h + 1 ≤ j; omega, hi2, by rw [← hi3, srchI_up hh2 c hr c2]⟩⟩, weak_of ⟨rfl, rfl, rfl, rfl, rfl, rfl, trivial⟩ rfl, by show j - (h + 1) < j - i; omega⟩
      · have c2 : ¬ r.at_ < a := fun hlt => by have := of_decide_eq_false c2; unfold cmpV at this; rw [if_pos (by omega)] at this; omega
        conv => whnf
        exact ⟨⟨(i, h), ⟨by show i ≤ h; omega, by show h ≤ N; omega, by rw [← hi3, srchI_dn hh2 c hr c2]⟩⟩, weak_of ⟨rfl, rfl, rfl, rfl, rfl, rfl, trivial⟩ rfl, by show h - i < j - i; omega⟩
    · have c : j ≤ i := dge c
      exact hq _ _ ⟨rfl, i, j, by rw [← hi3, srchI_end c], rfl⟩
  rintro _ _ ⟨rfl, i, j, hiI, rfl⟩
  rw [← hiI] at hf hok ⊢
  refine br_intro (fun c => ?_) (fun c => ?_)
  · have c : i < N := by have := of_decide_eq_true c; rw [hmap] at this; omega
    obtain ⟨r, hr, hrm⟩ := get_some (R := R) (i := i) (by omega)
    rw [hr] at hf
    refine ck_intro (ix0 (i := ((i : Nat) : Int)) rfl (by omega)) ?_
    refine opt_intro (show (R.map regT)[((i : Nat) : Int).toNat]? = some (regT r) from by rw [Int.toNat_natCast, List.getElem?_map, hr]; rfl) ?_
    refine CallS.pure (at_runs r a) rfl ?_
    refine And.intro ⟨rfl, congrArg (fun b => some (T.bool b)) ?_, trivial⟩ rfl
    rw [hf]
    by_cases h : r.at_ = a
    · simp [h, cmpV]
    · have : ¬ cmpV (r.at_ : Int) (a : Int) = 0 := fun q => h (by have := cmpV_eq (n := (r.at_ : Int)) (m := a) (by simp [q]); omega)
      show (cmpV (r.at_ : Int) (a : Int) == 0) = (r.at_ == a)
      rw [beq_eq_false_iff_ne.mpr this, beq_eq_false_iff_ne.mpr h]
  · have c : N ≤ i := by have := of_decide_eq_false c; rw [hmap] at this; omega
    rw [List.getElem?_eq_none (by omega)] at hf
    refine And.intro ⟨rfl, congrArg (fun b => some (T.bool b)) hf.symm, trivial⟩ rfl

/-- The region in which an address may lie. -/
def srchK (R : List RegD) (a : Nat) : Option RegD := if srchF R a then R[srchI R a 0 R.length]? else if srchI R a 0 R.length = 0 then none else R[srchI R a 0 R.length - 1]?

theorem srchK_le {R : List RegD} {a : Nat} {r : RegD} (h : srchK R a = some r) : r.at_ ≤ a ∧ r ∈ R := by
  unfold srchK at h
  by_cases hf : srchF R a = true
  · rw [if_pos hf] at h
    unfold srchF at hf
    rw [h] at hf
    have : r.at_ = a := by simpa using hf
    exact ⟨by omega, List.mem_of_getElem? h⟩
  · rw [if_neg hf] at h
    by_cases h0 : srchI R a 0 R.length = 0
    · rw [if_pos h0] at h; cases h
    · rw [if_neg h0] at h
      obtain ⟨q, hq, hlt⟩ := (srchI_ok R a R.length 0 R.length (by omega) (by omega) (by omega) (fun h => absurd h (by omega))).2 (by omega)
      rw [hq] at h
      cases h
      exact ⟨by omega, List.mem_of_getElem? hq⟩

end Go.Proofs.Ythdgpfegjdfpkaa
