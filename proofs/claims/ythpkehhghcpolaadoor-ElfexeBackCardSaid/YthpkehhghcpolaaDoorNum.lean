/-
  Bits of numbers: 'or' with a shifted byte, 'and', 'and not' with a power of two less one.
-/
import Derived.Test.YthpkehhghcpolaaDoorFb
import Derived.IntWalk
namespace Go.Proofs.YthpkehhghcpolaaDoor
set_option linter.unusedVariables false

theorem u64_nat {n : Nat} (h : n < 18446744073709551616) : IntKind.u64.wrap (n : Int) = n := by rw [IntKind.wrap_u64]; omega
theorem i64_nat {n : Nat} (h : n < 9223372036854775808) : IntKind.i64.wrap (n : Int) = n := by rw [IntKind.wrap_i64]; omega
theorem ofInt_nat (w n : Nat) : BitVec.ofInt w (n : Int) = BitVec.ofNat w n := by
  apply BitVec.eq_of_toNat_eq
  rw [BitVec.toNat_ofInt, BitVec.toNat_ofNat]
  omega

/-- 'or' of two numbers that aren't below 0. -/
theorem u64_or {a b : Nat} (ha : a < 18446744073709551616) (hb : b < 18446744073709551616) : bitsOp .or .u64 (a : Int) (b : Int) = ((a ||| b : Nat) : Int) := by
  have hor : a ||| b < 2 ^ 64 := Nat.or_lt_two_pow (by omega) (by omega)
  show IntKind.u64.wrap ((BitVec.ofInt 64 (a : Int) ||| BitVec.ofInt 64 (b : Int)).toNat : Int) = _
  rw [ofInt_nat, ofInt_nat, BitVec.toNat_or, BitVec.toNat_ofNat, BitVec.toNat_ofNat, Nat.mod_eq_of_lt (by omega), Nat.mod_eq_of_lt (by omega)]
  exact u64_nat (by omega)

theorem or_high {a c i : Nat} (ha : a < 2 ^ i) : a ||| (c * 2 ^ i) = a + c * 2 ^ i := by
  rw [Nat.mul_comm c, Nat.or_comm, ← Nat.two_pow_add_eq_or_of_lt ha]
  omega

theorem pow_and {j : Nat} : 2 ^ j &&& (2 ^ j - 1) = 0 := by
  rw [Nat.and_two_pow_sub_one_eq_mod, Nat.mod_self]

theorem log_in (x : Nat) (h : 1 ≤ x) : ∃ j, 2 ^ j ≤ x ∧ x < 2 ^ (j + 1) := ⟨Nat.log2 x, Nat.log2_self_le (by omega), Nat.lt_log2_self⟩

/-- A power of two has nothing in common with the number before it; no other number. -/
theorem and_pred {x : Nat} (h : 1 ≤ x) : x &&& (x - 1) = 0 ↔ ∃ j, x = 2 ^ j := by
  constructor
  · intro h0
    obtain ⟨j, h1, h2⟩ := log_in x h
    refine ⟨j, Decidable.byContradiction fun hne => ?_⟩
    have a := Nat.testBit_of_two_pow_le_and_two_pow_add_one_gt h1 h2
    have b := Nat.testBit_of_two_pow_le_and_two_pow_add_one_gt (n := x - 1) (i := j) (by omega) (by omega)
    have : (x &&& (x - 1)).testBit j = true := by rw [Nat.testBit_and, a, b]; rfl
    rw [h0] at this
    simp at this
  · rintro ⟨j, rfl⟩
    exact pow_and

/-- The number of bytes, the lowest first. -/
def le : List UInt8 → Nat
  | [] => 0
  | c :: r => c.toNat + 256 * le r

theorem le_lt : ∀ l : List UInt8, le l < 2 ^ (8 * l.length)
  | [] => by simp [le]
  | c :: r => by
    have := le_lt r
    have hc := c.toNat_lt
    simp only [le, List.length_cons]
    rw [show 8 * (r.length + 1) = 8 + 8 * r.length by omega, Nat.pow_add]
    omega

theorem le_snoc : ∀ (l : List UInt8) (c : UInt8), le (l ++ [c]) = le l + c.toNat * 2 ^ (8 * l.length)
  | [], c => by simp [le]
  | d :: r, c => by
    simp only [List.cons_append, le, le_snoc r c, List.length_cons]
    rw [show 8 * (r.length + 1) = 8 + 8 * r.length by omega, Nat.pow_add, Nat.mul_add, ← Nat.add_assoc]
    congr 1
    rw [show (2 : Nat) ^ 8 = 256 from rfl, Nat.mul_left_comm]

theorem or_step (l : List UInt8) (k : Nat) (hk : k < l.length) (hl : l.length ≤ 8) :
    bitsOp .or .u64 (le (l.take k) : Int) (IntKind.u64.wrap (IntKind.u64.wrap (l[k].toNat : Int) * 2 ^ (min (((8 * k : Nat) : Int)).toNat IntKind.u64.bits))) = ((le (l.take (k + 1)) : Nat) : Int) := by
  have hc := l[k].toNat_lt
  have hlt := le_lt (l.take k)
  rw [List.length_take, Nat.min_eq_left (by omega)] at hlt
  have h64 : min (((8 * k : Nat) : Int)).toNat IntKind.u64.bits = 8 * k := by
    rw [Int.toNat_natCast]
    show min (8 * k) 64 = 8 * k
    omega
  have hp : (2 : Nat) ^ (8 * k) ≤ 2 ^ 56 := Nat.pow_le_pow_right (by omega) (by omega)
  have hmul : l[k].toNat * 2 ^ (8 * k) < 18446744073709551616 := by
    have : l[k].toNat * 2 ^ (8 * k) ≤ 255 * 2 ^ 56 := Nat.mul_le_mul (by omega) hp
    omega
  rw [h64, u64_nat (by omega), show ((l[k].toNat : Int) * 2 ^ (8 * k)) = ((l[k].toNat * 2 ^ (8 * k) : Nat) : Int) by push_cast; rfl, u64_nat hmul, u64_or (by omega) hmul, or_high hlt, List.take_succ_eq_append_getElem hk, le_snoc, List.length_take, Nat.min_eq_left (by omega)]

end Go.Proofs.YthpkehhghcpolaaDoor
