/-
  Operands of a form; the value of an operand; the effects that Check asks for.
-/
import Derived.Test.YtnjmeadmkbkikaaGreatDoorHg
namespace Go.Proofs.YtnjmeadmkbkikaaGreatDoor
open Go.IntWalk
set_option maxRecDepth 100000
set_option linter.unusedVariables false
set_option linter.unusedSimpArgs false
set_option maxHeartbeats 1000000

def ord_85_1 : Ord := (.op 0 [] (.op 1 [] (.op 2 [1, 0] (.op 3 [1, 0] (.op 4 [1, 0] (.op 5 [1, 0] (.op 6 [] (.op 7 [] (.op 8 [] (.op 9 [8] (.op 10 [8] (.op 11 [8] (.op 12 [11, 10, 9, 8] (.op 13 [11, 10, 9, 8] (.op 14 [8] (.op 15 [8] (.op 16 [] (.op 17 [] (.op 18 [] .nil)))))))))))))))))))
def ord_95_6 : Ord := (.op 0 [] (.op 1 [0] (.op 2 [0] (.op 3 [0] (.op 4 [] (.op 5 [] (.op 6 [5, 4, 3, 2, 1, 0] (.op 7 [5, 4, 3, 2, 1, 0] (.op 8 [5, 4, 3, 2, 1, 0] (.op 9 [] (.op 10 [9, 8, 7, 6, 5, 4, 3, 2, 1, 0] (.op 11 [9, 8, 7, 6, 5, 4, 3, 2, 1, 0] (.op 12 [] (.op 13 [] .nil))))))))))))))

/-- An operand whose class is right. -/
def ArgOK (d : DescD) (a : ArgD) : Prop := ∃ k, at? d.classes a.cls = some k ∧ ClassOK d k

theorem arg_runs (d : DescD) (a : ArgD) : RunsX Tryz.prog 93 [argT a, ckP d] (YesS (ArgOK d a)) := by
  refine RunsX.of_call ?_ YesS.noRef
  refine CallS.of_fn tabS_ok regS_ok Tryz.func93 rfl rfl ?_
  refine draw_introS ord_85_1 (by decide +kernel) ?_
  refine CallS.pure (among_runs _ _) rfl ?_
  refine And.intro (fun j hj => by first | (cases hj; done) | exact LeX.append _ _ _ | exact LeX.refl _ _) ?_
  refine br_intro (fun c => ?_) (fun c => ?_)
  · have h := am1 c
    obtain ⟨k, hk, _, hg⟩ := at_some h
    refine ck_intro (ix0 rfl h.1) ?_
    refine opt_intro (row_get hg) ?_
    refine CallS.frzX (class_runs d k) rfl ⟨.refl _, .refl _, trivial⟩ ?_
    rintro _ ⟨b, rfl, hb⟩
    refine And.intro (fun j hj => by first | (cases hj; done) | exact LeX.append _ _ _ | exact LeX.refl _ _) ?_
    refine And.intro (fun j hj => by first | (cases hj; done) | exact LeX.append _ _ _ | exact LeX.refl _ _) ?_
    exact yes_end fun h => ⟨k, hk, hb (by simpa using h)⟩
  · refine And.intro (fun j hj => by first | (cases hj; done) | exact LeX.append _ _ _ | exact LeX.refl _ _) ?_
    refine And.intro (fun j hj => by first | (cases hj; done) | exact LeX.append _ _ _ | exact LeX.refl _ _) ?_
    exact no_end

theorem effectC_runs (d : DescD) (f : FormD) {t : T} (h : IsTerm t) : RunsX Tryz.prog 26 [t, ckP d, fmP f] (YesS True) := by
  have hE := effect_runs d f h
  cases h with | mk op wd a b kk _ _ _ _ _ _ =>
  refine RunsX.of_call ?_ YesS.noRef
  refine CallS.of_fn tabS_ok regS_ok Tryz.func26 rfl rfl ?_
  refine CallS.frzX hE rfl ⟨.refl _, .refl _, .refl _, trivial⟩ ?_
  rintro _ ⟨bS, rfl, pS⟩
  exact yes_end fun _ => trivial

/-- The value of an operand that has these bits. -/
def valueV (k : ClassD) (n : Nat) : Int :=
  if k.kind = 1 then n + k.plus else if k.kind = 2 then (n : Int) * 2 ^ k.shift.toNat else (if 2 ^ (k.bits.toNat - 1) ≤ n then (n : Int) - 2 ^ k.bits.toNat else n) * 2 ^ k.shift.toNat

theorem pow_le {a b : Nat} (h : a ≤ b) : 2 ^ a ≤ 2 ^ b := Nat.pow_le_pow_right (by decide) h
theorem min64 {s : Int} {n : Nat} (h : s.toNat ≤ n) : min s.toNat n = s.toNat := Nat.min_eq_left h
theorem int_pow (n : Nat) : ((2 ^ n : Nat) : Int) = 2 ^ n := by rw [Int.natCast_pow]; rfl

theorem value_runs (d : DescD) (k : ClassD) (hk : ClassOK d k) (n : Nat) (hn : n < 2 ^ k.bits.toNat) : Runs Tryz.prog 104 [classT k, .int .u64 n] (.t (.int .i64 (valueV k n))) := by
  have hsh : 0 ≤ k.shift := by rcases hk with h | h | h <;> omega
  have hsh64 : k.shift ≤ 64 := by rcases hk with h | h | h <;> omega
  have hb : 1 ≤ k.bits ∧ k.bits ≤ 64 := by rcases hk with h | h | h <;> omega
  have hb0 : k.bits.toNat ≤ 64 := by omega
  refine Runs.of_call ?_ rfl
  refine CallS.of_fn tabS_ok regS_ok Tryz.func104 rfl rfl ?_
  refine br_intro (fun c => ?_) (fun c => ?_)
  · have c : k.kind = 1 := by simpa using c
    have hp : 0 ≤ k.plus ∧ k.plus < 64 ∧ k.bits ≤ 6 := by rcases hk with h | h | h <;> omega
    have : 2 ^ k.bits.toNat ≤ 2 ^ 6 := pow_le (by omega)
    refine st_intro (n := (n : Int)) (by rw [IntKind.wrap_i64]; omega) ?_
    refine st_intro (n := (n : Int) + k.plus) (by rw [IntKind.wrap_i64]; omega) ?_
    exact And.intro (congrArg (fun x => some (T.int .i64 x)) (by rw [valueV, if_pos c])) rfl
  have c1 : ¬ k.kind = 1 := by simpa using c
  refine br_intro (fun c => ?_) (fun c => ?_)
  · have c : k.kind = 2 := by simpa using c
    have hp : k.bits + k.shift ≤ 62 := by rcases hk with h | h | h <;> omega
    have h1 : 2 ^ k.bits.toNat ≤ 2 ^ 62 := pow_le (by omega)
    have h2 : n * 2 ^ k.shift.toNat < 2 ^ 62 := by
      have : n * 2 ^ k.shift.toNat < 2 ^ k.bits.toNat * 2 ^ k.shift.toNat := Nat.mul_lt_mul_of_pos_right hn (Nat.two_pow_pos _)
      rw [← Nat.pow_add] at this
      exact Nat.lt_of_lt_of_le this (pow_le (by omega))
    refine st_intro (n := (n : Int)) (by rw [IntKind.wrap_i64]; omega) ?_
    refine ck_intro (decide_eq_true hsh) ?_
    refine st_intro (n := ((n * 2 ^ k.shift.toNat : Nat) : Int)) (show IntKind.i64.wrap ((n : Int) * 2 ^ (min (Int.toNat k.shift) IntKind.i64.bits)) = _ from by
      rw [min64 (by show k.shift.toNat ≤ 64; omega), ← int_pow, ← Int.natCast_mul, IntKind.wrap_i64]; omega) ?_
    exact And.intro (congrArg (fun x => some (T.int .i64 x)) (by rw [valueV, if_neg c1, if_pos c, Int.natCast_mul, int_pow])) rfl
  have c2 : ¬ k.kind = 2 := by simpa using c
  have hp : k.bits + k.shift ≤ 64 := by rcases hk with h | h | h <;> omega
  refine draw_introS ord_95_6 (by decide +kernel) ?_
  obtain ⟨m, hm⟩ : ∃ m, m = 64 - k.bits := ⟨_, rfl⟩
  have hm0 : m.toNat + k.bits.toNat = 64 := by omega
  have hP : 2 ^ k.bits.toNat * 2 ^ m.toNat = 18446744073709551616 := by rw [← Nat.pow_add, Nat.add_comm, hm0]
  have hH : 2 ^ (k.bits.toNat - 1) * 2 = 2 ^ k.bits.toNat := by rw [← Nat.pow_succ]; congr 1; omega
  obtain ⟨M, hM⟩ : ∃ M, M = 2 ^ m.toNat := ⟨_, rfl⟩
  have hM0 : 0 < M := by rw [hM]; exact Nat.two_pow_pos _
  obtain ⟨B, hB⟩ : ∃ B, B = 2 ^ k.bits.toNat := ⟨_, rfl⟩
  obtain ⟨S, hS⟩ : ∃ S, S = 2 ^ k.shift.toNat := ⟨_, rfl⟩
  have hS0 : 0 < S := by rw [hS]; exact Nat.two_pow_pos _
  obtain ⟨H, hH2⟩ : ∃ H, H = 2 ^ (k.bits.toNat - 1) := ⟨_, rfl⟩
  rw [← hB, ← hM] at hP
  rw [← hH2, ← hB] at hH
  rw [← hB] at hn
  have hnM : n * M < 18446744073709551616 := by rw [← hP]; exact Nat.mul_lt_mul_of_pos_right hn hM0
  obtain ⟨v, hv⟩ : ∃ v : Int, v = if H ≤ n then (n : Int) - B else n := ⟨_, rfl⟩
  have hHM : H * M = 9223372036854775808 := by
    have : H * 2 * M = 18446744073709551616 := by rw [hH]; exact hP
    have : H * 2 * M = H * M * 2 := by rw [Nat.mul_assoc, Nat.mul_comm 2 M, ← Nat.mul_assoc]
    omega
  have hBM : (B : Int) * (M : Int) = 18446744073709551616 := by rw [← Int.natCast_mul, hP]; rfl
  have g2e : IntKind.i64.wrap ((n * M : Nat) : Int) = v * (M : Int) := by
    rw [hv]
    split
    · next h =>
      have h1 : H * M ≤ n * M := Nat.mul_le_mul_right _ h
      rw [Int.sub_mul, hBM, ← Int.natCast_mul, IntKind.wrap_i64]; omega
    · next h =>
      have h1 : n * M < H * M := Nat.mul_lt_mul_of_pos_right (by omega) hM0
      rw [← Int.natCast_mul, IntKind.wrap_i64]; omega
  have hvB : -(H : Int) ≤ v ∧ v < H := by rw [hv]; split <;> omega
  have hHS : H * S ≤ 9223372036854775808 := by
    rw [hH2, hS, ← Nat.pow_add]
    exact pow_le (b := 63) (by omega)
  have hvS : -9223372036854775808 ≤ v * (S : Int) ∧ v * (S : Int) ≤ 9223372036854775807 := by
    have e : ((H * S : Nat) : Int) = (H : Int) * S := Int.natCast_mul _ _
    have h1 : -(H : Int) * S ≤ v * S := Int.mul_le_mul_of_nonneg_right hvB.1 (by omega)
    have h2 : v * S ≤ ((H : Int) - 1) * S := Int.mul_le_mul_of_nonneg_right (by omega) (by omega)
    rw [Int.neg_mul] at h1
    rw [Int.sub_mul] at h2
    omega
  refine st_intro (n := m) (show IntKind.i64.wrap (64 - k.bits) = m from by rw [hm]; exact i64_int (by omega) (by omega)) ?_
  refine ck_intro (decide_eq_true (show (0 : Int) ≤ m by omega)) ?_
  refine st_intro (n := ((n * M : Nat) : Int)) (show IntKind.u64.wrap ((n : Int) * 2 ^ (min (Int.toNat m) IntKind.u64.bits)) = _ from by
    rw [min64 (by show m.toNat ≤ 64; omega), ← int_pow, ← hM, ← Int.natCast_mul, IntKind.wrap_u64]; omega) ?_
  refine st_intro (n := v * (M : Int)) g2e ?_
  refine st_intro (n := m) (show IntKind.i64.wrap (64 - k.bits) = m from by rw [hm]; exact i64_int (by omega) (by omega)) ?_
  refine ck_intro (decide_eq_true (show (0 : Int) ≤ m by omega)) ?_
  refine st_intro (n := v) (show (v * (M : Int)).fdiv (2 ^ min (Int.toNat m) IntKind.i64.bits) = v from by
    rw [min64 (by show m.toNat ≤ 64; omega), ← int_pow, ← hM, Int.fdiv_eq_ediv_of_nonneg _ (by omega)]
    exact Int.mul_ediv_cancel _ (by omega)) ?_
  refine ck_intro (decide_eq_true hsh) ?_
  refine st_intro (n := v * (S : Int)) (show IntKind.i64.wrap (v * 2 ^ (min (Int.toNat k.shift) IntKind.i64.bits)) = _ from by
    rw [min64 (by show k.shift.toNat ≤ 64; omega), ← int_pow, ← hS, IntKind.wrap_i64]; omega) ?_
  refine And.intro (fun j hj => by first | (cases hj; done) | exact LeX.append _ _ _ | exact LeX.refl _ _) ?_
  exact And.intro (congrArg (fun x => some (T.int .i64 x)) (by rw [valueV, if_neg c1, if_neg c2, hv, ← int_pow, ← hB, ← hH2, ← int_pow, ← hS])) rfl

end Go.Proofs.YtnjmeadmkbkikaaGreatDoor
