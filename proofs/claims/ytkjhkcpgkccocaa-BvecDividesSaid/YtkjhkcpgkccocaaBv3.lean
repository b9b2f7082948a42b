/-
  Numbers of 128 bits: sums, differences, products, shifts.
-/
import Derived.Test.YtkjhkcpgkccocaaBv2
import Derived.Test.YtkjhkcpgkccocaaExt
import Derived.Lib.Mul64
namespace Go.Proofs.Ytkjhkcpgkccocaa
open Go.IntWalk
set_option maxRecDepth 100000
set_option linter.unusedVariables false
set_option linter.unusedSimpArgs false

theorem add64_runs (x y c : Nat) (hc : c ≤ 1) : Runs Try.prog 73 [.int .u64 (x : Int), .int .u64 (y : Int), .int .u64 (c : Int)]
    (.tup [.t (.int .u64 (((x + y + c) % 18446744073709551616 : Nat) : Int)), .t (.int .u64 (((x + y + c) / 18446744073709551616 : Nat) : Int))]) := by
  refine Runs.of_extern Try.func73 (by kernel_rfl) (by kernel_rfl) (by kernel_rfl) (e := add64Entry) (by kernel_rfl) (fun w vs F hl hr => ?_) rfl (fun _ => rfl)
  have hv : vs = #[.int .u64 (x : Int), .int .u64 (y : Int), .int .u64 (c : Int)] := by
    obtain ⟨l⟩ := vs
    match l, hl, hr with
    | [a, b, d], _, hr =>
      have h1 := hr 0 _ a rfl rfl
      have h2 := hr 1 _ b rfl rfl
      have h3 := hr 2 _ d rfl rfl
      cases h1; cases h2; cases h3; rfl
  subst hv
  refine ⟨_, run_add64 x y c (by omega) (by omega) (by omega) (by omega) w, fun c' H _ => ?_⟩
  refine .tup _ _ rfl fun i x v hi hv => ?_
  match i with
  | 0 => simp at hi hv; subst hi hv; exact .t _ _ (.int _ _)
  | 1 => simp at hi hv; subst hi hv; exact .t _ _ (.int _ _)
  | i + 2 => simp at hi

theorem add_runs (a b : Nat) (ha : a < 2 ^ 128) (hb : b < 2 ^ 128) : Runs Try.prog 44 [wd a, wd b] (.t (wd ((a + b) % 2 ^ 128))) := by
  refine Runs.of_call ?_ rfl
  refine CallS.of_fn tab_ok reg_ok Try.func44 rfl rfl ?_
  refine CallS.pure (add64_runs (a % 18446744073709551616) (b % 18446744073709551616) 0 (by omega)) rfl ?_
  refine CallS.pure (add64_runs (a / 18446744073709551616) (b / 18446744073709551616) _ (by omega)) rfl ?_
  refine And.intro (agg2 ?_ ?_) rfl
  · omega
  · omega

theorem neg_runs (a : Nat) (ha : a < 2 ^ 128) : Runs Try.prog 68 [wd a] (.t (wd ((2 ^ 128 - a) % 2 ^ 128))) := by
  refine Runs.of_call ?_ rfl
  refine CallS.of_fn tab_ok reg_ok Try.func68 rfl rfl ?_
  refine CallS.snap (not_runs a ha) rfl rfl ?_
  refine CallS.snap (add_runs (340282366920938463463374607431768211455 - a) 1 (by omega) (by omega)) rfl rfl ?_
  have e : (340282366920938463463374607431768211455 - a + 1) % 2 ^ 128 = (2 ^ 128 - a) % 2 ^ 128 := by omega
  rw [e]
  exact And.intro rfl rfl

theorem sub_runs (a b : Nat) (ha : a < 2 ^ 128) (hb : b < 2 ^ 128) : Runs Try.prog 45 [wd a, wd b] (.t (wd ((a + 2 ^ 128 - b) % 2 ^ 128))) := by
  refine Runs.of_call ?_ rfl
  refine CallS.of_fn tab_ok reg_ok Try.func45 rfl rfl ?_
  refine draw_intro [(0, false), (1, false), (2, false), (3, true), (4, true)] (by decide +kernel) ?_
  refine CallS.snap (neg_runs b hb) rfl rfl (And.intro (LeX.append _ _ _) ?_)
  refine CallS.snap (add_runs a ((2 ^ 128 - b) % 2 ^ 128) ha (by omega)) rfl rfl ?_
  have e : (a + (2 ^ 128 - b) % 2 ^ 128) % 2 ^ 128 = (a + 2 ^ 128 - b) % 2 ^ 128 := by omega
  rw [e]
  exact And.intro rfl rfl


theorem wrap_u64_nat (n : Nat) : IntKind.u64.wrap (n : Int) = ((n % 18446744073709551616 : Nat) : Int) := by rw [IntKind.wrap_u64]; omega

theorem tb_mul (x n i : Nat) : (x * 2 ^ n).testBit i = (decide (n ≤ i) && x.testBit (i - n)) := by
  rw [← Nat.shiftLeft_eq, Nat.testBit_shiftLeft]

theorem tb_div (x n i : Nat) : (x / 2 ^ n).testBit i = x.testBit (n + i) := by
  rw [← Nat.shiftRight_eq_div_pow, Nat.testBit_shiftRight]

theorem up_lo64 (a n : Nat) (h : n < 64) : (a % 2 ^ 64) * 2 ^ n % 2 ^ 64 = (a * 2 ^ n % 2 ^ 128) % 2 ^ 64 := by
  refine Nat.eq_of_testBit_eq fun i => ?_
  simp only [Nat.testBit_mod_two_pow, tb_mul]
  by_cases h1 : i < 64
  · by_cases h2 : n ≤ i
    · simp [h1, h2, show i - n < 64 by omega, show i < 128 by omega]
    · simp [h2]
  · simp [h1]

theorem up_hi64 (a n : Nat) (h : n < 64) : ((a / 2 ^ 64) * 2 ^ n % 2 ^ 64) ||| ((a % 2 ^ 64) / 2 ^ (64 - n)) = (a * 2 ^ n % 2 ^ 128) / 2 ^ 64 := by
  refine Nat.eq_of_testBit_eq fun i => ?_
  simp only [Nat.testBit_or, Nat.testBit_mod_two_pow, tb_mul, tb_div]
  by_cases h1 : i < 64
  · by_cases h2 : n ≤ i
    · simp [h1, h2, show ¬ (64 - n + i < 64) by omega, show 64 + i < 128 by omega, show n ≤ 64 + i by omega, show 64 + (i - n) = 64 + i - n by omega]
    · simp [h1, h2, show (64 - n + i < 64) by omega, show 64 + i < 128 by omega, show n ≤ 64 + i by omega, show 64 - n + i = 64 + i - n by omega, show 64 + i - n < 64 by omega]
  · simp [h1, show ¬ (64 - n + i < 64) by omega, show ¬ 64 + i < 128 by omega]

theorem up_hi128 (a n : Nat) (h : 64 ≤ n) : (a % 2 ^ 64) * 2 ^ (min (n - 64) 64) % 2 ^ 64 = (a * 2 ^ n % 2 ^ 128) / 2 ^ 64 := by
  refine Nat.eq_of_testBit_eq fun i => ?_
  simp only [Nat.testBit_or, Nat.testBit_mod_two_pow, tb_mul, tb_div]
  by_cases h1 : i < 64
  · by_cases h2 : n ≤ 64 + i
    · simp [h1, h2, show min (n - 64) 64 ≤ i by omega, show 64 + i < 128 by omega, show i - min (n - 64) 64 = 64 + i - n by omega, show 64 + i - n < 64 by omega]
    · simp [h2, show ¬ min (n - 64) 64 ≤ i by omega]
  · simp [h1, show ¬ 64 + i < 128 by omega]

theorem up_lo128 (a n : Nat) (h : 64 ≤ n) : (a * 2 ^ n % 2 ^ 128) % 2 ^ 64 = 0 := by
  refine Nat.eq_of_testBit_eq fun i => ?_
  simp only [Nat.testBit_mod_two_pow, tb_mul, Nat.zero_testBit]
  by_cases h1 : i < 64
  · simp [show ¬ n ≤ i by omega]
  · simp [h1]

theorem down_lo64 (a n : Nat) (h : n < 64) : ((a % 2 ^ 64) / 2 ^ n) ||| ((a / 2 ^ 64) * 2 ^ (64 - n) % 2 ^ 64) = (a / 2 ^ n) % 2 ^ 64 := by
  refine Nat.eq_of_testBit_eq fun i => ?_
  simp only [Nat.testBit_or, Nat.testBit_mod_two_pow, tb_mul, tb_div]
  by_cases h1 : i < 64
  · by_cases h2 : n + i < 64
    · simp [h1, h2, show ¬ 64 - n ≤ i by omega]
    · simp [h1, h2, show 64 - n ≤ i by omega, show 64 + (i - (64 - n)) = n + i by omega]
  · simp [h1, show ¬ n + i < 64 by omega]

theorem down_hi64 (a n : Nat) : (a / 2 ^ 64) / 2 ^ n = (a / 2 ^ n) / 2 ^ 64 := by
  rw [Nat.div_div_eq_div_mul, Nat.div_div_eq_div_mul, Nat.mul_comm]

theorem down_lo128 (a n : Nat) (ha : a < 2 ^ 128) (h : 64 ≤ n) : (a / 2 ^ 64) / 2 ^ (min (n - 64) 64) = (a / 2 ^ n) % 2 ^ 64 := by
  refine Nat.eq_of_testBit_eq fun i => ?_
  simp only [Nat.testBit_or, Nat.testBit_mod_two_pow, tb_mul, tb_div]
  have big : ∀ k, 128 ≤ k → a.testBit k = false := fun k hk => Nat.testBit_lt_two_pow (Nat.lt_of_lt_of_le ha (Nat.pow_le_pow_right (by omega) hk))
  by_cases h1 : n - 64 ≤ 64
  · rw [Nat.min_eq_left h1, show 64 + (n - 64 + i) = n + i by omega]
    by_cases h2 : i < 64
    · simp [h2]
    · simp [h2, big (n + i) (by omega)]
  · rw [Nat.min_eq_right (by omega), big (64 + (64 + i)) (by omega), big (n + i) (by omega)]
    simp

theorem down_hi128 (a n : Nat) (ha : a < 2 ^ 128) (h : 64 ≤ n) : (a / 2 ^ n) / 2 ^ 64 = 0 := by
  rw [Nat.div_div_eq_div_mul, ← Nat.pow_add]
  exact Nat.div_eq_of_lt (Nat.lt_of_lt_of_le ha (Nat.pow_le_pow_right (by omega) (by omega)))

/-- Shifts of numbers of 64 bits, as the model reckons them. -/
theorem shl_u64 (x n : Nat) : IntKind.u64.wrap ((x : Int) * 2 ^ (min (n : Int).toNat IntKind.u64.bits)) = ((x * 2 ^ (min n 64) % 18446744073709551616 : Nat) : Int) := by
  rw [show IntKind.u64.bits = 64 from rfl, Int.toNat_natCast, show ((x : Int) * 2 ^ (min n 64)) = ((x * 2 ^ (min n 64) : Nat) : Int) by simp]
  exact wrap_u64_nat _

theorem shr_u64 (x n : Nat) : (x : Int).fdiv (2 ^ (min (n : Int).toNat IntKind.u64.bits)) = ((x / 2 ^ (min n 64) : Nat) : Int) := by
  rw [show IntKind.u64.bits = 64 from rfl, Int.toNat_natCast, Int.fdiv_eq_ediv_of_nonneg _ (by exact Int.le_of_lt (Int.pow_pos (by omega)))]
  simp

theorem up_runs (a n : Nat) (ha : a < 2 ^ 128) (hn : n < 18446744073709551616) : Runs Try.prog 42 [wd a, .int .u64 (n : Int)] (.t (wd (a * 2 ^ n % 2 ^ 128))) := by
  refine Runs.of_call ?_ rfl
  refine CallS.of_fn tab_ok reg_ok Try.func42 rfl rfl ?_
  refine br_intro (fun h => ?_) (fun h => ?_)
  · have h : 64 ≤ n := by have := of_decide_eq_true h; omega
    have e : IntKind.u64.wrap ((n : Int) - 64) = ((n - 64 : Nat) : Int) := by rw [IntKind.wrap_u64]; omega
    refine ck_intro (by rw [e]; simp) ?_
    refine And.intro (agg2 ?_ ?_) rfl
    · rw [e, shl_u64]; exact congrArg _ (up_hi128 a n h)
    · exact congrArg _ (up_lo128 a n h).symm
  · have h : n < 64 := by have := of_decide_eq_false h; omega
    have e : IntKind.u64.wrap (64 - (n : Int)) = ((64 - n : Nat) : Int) := by rw [IntKind.wrap_u64]; omega
    refine ck_intro (by rw [e]; simp) ?_
    refine And.intro (agg2 ?_ ?_) rfl
    · rw [e, shl_u64, shr_u64, Nat.min_eq_left (by omega), Nat.min_eq_left (by omega)]
      rw [u64_or (Nat.mod_lt _ (by omega)) (Nat.lt_of_le_of_lt (Nat.div_le_self _ _) (Nat.mod_lt _ (by omega)))]
      exact congrArg _ (up_hi64 a n h)
    · rw [shl_u64, Nat.min_eq_left (by omega)]; exact congrArg _ (up_lo64 a n h)

theorem down_runs (a n : Nat) (ha : a < 2 ^ 128) (hn : n < 18446744073709551616) : Runs Try.prog 65 [wd a, .int .u64 (n : Int)] (.t (wd (a / 2 ^ n))) := by
  refine Runs.of_call ?_ rfl
  refine CallS.of_fn tab_ok reg_ok Try.func65 rfl rfl ?_
  refine br_intro (fun h => ?_) (fun h => ?_)
  · have h : 64 ≤ n := by have := of_decide_eq_true h; omega
    have e : IntKind.u64.wrap ((n : Int) - 64) = ((n - 64 : Nat) : Int) := by rw [IntKind.wrap_u64]; omega
    refine ck_intro (by rw [e]; simp) ?_
    refine And.intro (agg2 ?_ ?_) rfl
    · exact congrArg _ (down_hi128 a n ha h).symm
    · rw [e, shr_u64]; exact congrArg _ (down_lo128 a n ha h)
  · have h : n < 64 := by have := of_decide_eq_false h; omega
    have e : IntKind.u64.wrap (64 - (n : Int)) = ((64 - n : Nat) : Int) := by rw [IntKind.wrap_u64]; omega
    refine ck_intro (by rw [e]; simp) ?_
    refine And.intro (agg2 ?_ ?_) rfl
    · rw [shr_u64, Nat.min_eq_left (by omega)]; exact congrArg _ (down_hi64 a n)
    · rw [e, shr_u64, shl_u64, Nat.min_eq_left (by omega), Nat.min_eq_left (by omega)]
      rw [u64_or (Nat.lt_of_le_of_lt (Nat.div_le_self _ _) (Nat.mod_lt _ (by omega))) (Nat.mod_lt _ (by omega))]
      exact congrArg _ (down_lo64 a n h)

end Go.Proofs.Ytkjhkcpgkccocaa
