/-
  Numbers of 128 bits: products, quotients.
-/
import Derived.Test.YtkjhkcpgkccocaaBv3
namespace Go.Proofs.Ytkjhkcpgkccocaa
open Go.IntWalk
set_option maxRecDepth 100000
set_option linter.unusedVariables false
set_option linter.unusedSimpArgs false

theorem tup2 {H : AH} {k k' : IntKind} {p p' q q' : Int} (h1 : p = p') (h2 : q = q') : packP H (.tup [.t (.int k p'), .t (.int k' q')]) (.tup [.t (.int k p), .t (.int k' q)]) := by
  subst h1 h2; exact ⟨rfl, rfl, trivial⟩

theorem and32 (x : Nat) (hx : x < 18446744073709551616) : bitsOp .and .u64 (x : Int) 4294967295 = ((x % 4294967296 : Nat) : Int) := by
  have := u64_and (a := x) (b := 4294967295) hx (by omega)
  rw [show ((4294967295 : Nat) : Int) = 4294967295 from rfl] at this
  rw [this]
  exact congrArg _ (Nat.and_two_pow_sub_one_eq_mod x 32)

theorem shr32 (x : Nat) : (x : Int).fdiv (2 ^ (min (Int.toNat 32) IntKind.u64.bits)) = ((x / 4294967296 : Nat) : Int) := shr_u64 x 32

theorem wmul (a b : Nat) (h : a * b < 18446744073709551616) : IntKind.u64.wrap ((a : Int) * (b : Int)) = ((a * b : Nat) : Int) := by
  rw [← Int.natCast_mul]; exact u64_nat h

theorem wadd (a b : Nat) (h : a + b < 18446744073709551616) : IntKind.u64.wrap ((a : Int) + (b : Int)) = ((a + b : Nat) : Int) := by
  rw [← Int.natCast_add]; exact u64_nat h

theorem mul64_runs (x y : Nat) (hx : x < 18446744073709551616) (hy : y < 18446744073709551616) : Runs Try.prog 74 [.int .u64 (x : Int), .int .u64 (y : Int)]
    (.tup [.t (.int .u64 ((x * y / 18446744073709551616 : Nat) : Int)), .t (.int .u64 ((x * y % 18446744073709551616 : Nat) : Int))]) := by
  refine Runs.of_call ?_ rfl
  refine CallS.of_fn tab_ok reg_ok Try.func74 rfl rfl ?_
  refine And.intro (tup2 ?_ ?_) rfl
  · obtain ⟨h1, h2, h3, h4⟩ := Go.Lib.mul64_hi x y hx hy
    have h5 : (x / 4294967296) * (y % 4294967296) < 18446744073709551616 := by omega
    have h6 : (x % 4294967296) * (y / 4294967296) < 18446744073709551616 := by omega
    have h7 : x * y / 18446744073709551616 < 18446744073709551616 := by
      rw [Nat.div_lt_iff_lt_mul (by omega)]
      have := Nat.mul_le_mul (Nat.le_of_lt_succ (show x < 18446744073709551615 + 1 by omega)) (Nat.le_of_lt_succ (show y < 18446744073709551615 + 1 by omega))
      omega
    rw [shr32, shr32, and32 x hx, and32 y hy, wmul _ _ h1, wmul _ _ h5, shr32, wadd _ _ h2, and32 _ h2, wmul _ _ h6, wadd _ _ h3, shr32, shr32]
    have h8 : (x / 4294967296) * (y / 4294967296) < 18446744073709551616 := by
      rw [← h4] at h7; omega
    rw [wmul _ _ h8, wadd _ _ (by rw [← h4] at h7; omega), wadd _ _ (by rw [h4]; exact h7), h4]
  · rw [← Int.natCast_mul]; exact wrap_u64_nat _

theorem mul_runs (a b : Nat) (ha : a < 2 ^ 128) (hb : b < 2 ^ 128) : Runs Try.prog 46 [wd a, wd b] (.t (wd (a * b % 2 ^ 128))) := by
  refine Runs.of_call ?_ rfl
  refine CallS.of_fn tab_ok reg_ok Try.func46 rfl rfl ?_
  refine CallS.pure (mul64_runs (a % 18446744073709551616) (b % 18446744073709551616) (by omega) (by omega)) rfl ?_
  have ea := Nat.div_add_mod a 18446744073709551616
  have eb := Nat.div_add_mod b 18446744073709551616
  have hl := Nat.mod_lt a (show 18446744073709551616 > 0 by omega)
  generalize hah : a / 18446744073709551616 = ah at *
  generalize hal : a % 18446744073709551616 = al at *
  generalize hbh : b / 18446744073709551616 = bh at *
  generalize hbl : b % 18446744073709551616 = bl at *
  have em : a * b % 2 ^ 128 = ((al * bl / 18446744073709551616 + ah * bl + al * bh) % 18446744073709551616) * 18446744073709551616 + al * bl % 18446744073709551616 := by
    have e : a * b = (ah * bh) * 2 ^ 128 + ((ah * bl + al * bh) * 18446744073709551616 + al * bl) := by
      have := Go.Lib.split_mul ah al bh bl 18446744073709551616
      rw [show ah * 18446744073709551616 + al = a by rw [Nat.mul_comm]; exact ea, show bh * 18446744073709551616 + bl = b by rw [Nat.mul_comm]; exact eb] at this
      rw [this, Nat.add_assoc]
    rw [e, Nat.mul_add_mod_self_right]
    generalize ah * bl = p
    generalize al * bh = q
    generalize al * bl = r
    omega
  refine And.intro (agg2 ?_ ?_) rfl
  · rw [em, ← Int.natCast_mul, wrap_u64_nat, ← Int.natCast_mul, wrap_u64_nat, ← Int.natCast_add, wrap_u64_nat, ← Int.natCast_add, wrap_u64_nat]
    refine congrArg _ ?_
    generalize ah * bl = p
    generalize al * bh = q
    generalize al * bl = r
    omega
  · rw [em]
    refine congrArg _ ?_
    generalize al * bl / 18446744073709551616 + ah * bl + al * bh = p
    omega

end Go.Proofs.Ytkjhkcpgkccocaa
