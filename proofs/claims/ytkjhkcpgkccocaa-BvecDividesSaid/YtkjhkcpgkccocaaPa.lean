/-
  The plain laws: the program's answers are the document's.
-/
import Derived.Test.YtkjhkcpgkccocaaLl
namespace Go.Proofs.Ytkjhkcpgkccocaa
open Go.IntWalk
set_option maxRecDepth 100000
set_option linter.unusedVariables false
set_option linter.unusedSimpArgs false

theorem msk {w : Nat} (h : w ≤ 128) (x : Nat) : x &&& maskN (w : Int) = x % 2 ^ w := by
  rw [and_mask, Int.toNat_natCast, Nat.min_eq_left h]
theorem mm {w : Nat} (h : w ≤ 128) (x : Nat) : x % 2 ^ 128 % 2 ^ w = x % 2 ^ w := Nat.mod_mod_of_dvd _ (Nat.pow_dvd_pow 2 h)

theorem mod_of_int {a b P : Nat} {z : Int} (k k' : Int) (ha : (a : Int) = z + (P : Int) * k) (hb : (b : Int) = z + (P : Int) * k') : a % P = b % P := by
  have : ((a % P : Nat) : Int) = ((b % P : Nat) : Int) := by
    rw [Int.natCast_emod, Int.natCast_emod, ha, hb, Int.add_mul_emod_self_left, Int.add_mul_emod_self_left]
  omega

/-- 2^128 as a multiple of 2^w. -/
theorem p128 {w : Nat} (h : w ≤ 128) : ∃ Q : Nat, 2 ^ w * Q = 340282366920938463463374607431768211456 :=
  ⟨2 ^ (128 - w), by rw [← Nat.pow_add, show w + (128 - w) = 128 by omega]⟩
theorem p128i {w : Nat} (h : w ≤ 128) : ∃ Q : Int, ((2 ^ w : Nat) : Int) * Q = 340282366920938463463374607431768211456 := by
  obtain ⟨Q, hQ⟩ := p128 h
  exact ⟨Q, by rw [← Int.natCast_mul, hQ]; rfl⟩

theorem make_law (w : Int) (n : Nat) : makeT w n = rmakeT w n := by
  unfold makeT rmakeT
  split
  · rename_i h
    obtain ⟨w, rfl⟩ := Int.eq_ofNat_of_zero_le (show 0 ≤ w by omega)
    rw [msk (by omega), Int.toNat_natCast]
  · rfl

theorem from_law (w n : Int) (hn : -9223372036854775808 ≤ n ∧ n ≤ 9223372036854775807) : makeT w (of128 n) = rfromT w n := by
  unfold makeT rfromT
  split
  · rename_i h
    obtain ⟨w, rfl⟩ := Int.eq_ofNat_of_zero_le (show 0 ≤ w by omega)
    rw [msk (by omega), Int.toNat_natCast, fillN, of128]
    by_cases h0 : n < 0
    · rw [decide_eq_true h0, if_pos rfl]
      obtain ⟨Q, hQ⟩ := p128i (w := w) (by omega)
      congr 1
      refine mod_of_int (z := n) Q 18446744073709551616 ?_ ?_
      · rw [hQ]; omega
      · have e : 2 ^ 64 * (2 ^ w - 1) = 2 ^ 64 * 2 ^ w - 2 ^ 64 := by rw [Nat.mul_sub, Nat.mul_one]
        have := Nat.pow_pos (n := w) (show 0 < 2 by omega)
        rw [e]
        omega
    · rw [decide_eq_false h0, if_neg (by simp)]
      congr 2
      omega
  · rfl

theorem un_law (op w : Int) (n : Nat) : unT op w n = runT op w n := by
  unfold unT runT
  split
  · rename_i h
    have hw := h.1
    obtain ⟨w, rfl⟩ := Int.eq_ofNat_of_zero_le (show 0 ≤ w by omega)
    have hlt : n < 2 ^ w := h.2
    obtain ⟨Q, hQ⟩ := p128i (w := w) (by omega)
    have hP : 2 ^ w ≤ 2 ^ 128 := Nat.pow_le_pow_right (by omega) (by omega)
    rw [msk (by omega), msk (by omega), Int.toNat_natCast, mm (by omega), compl, negW, Nat.mod_eq_of_lt hlt, Nat.mod_mod]
    have e1 : (all1 - n) % 2 ^ w = (2 ^ w - 1 - n) % 2 ^ w := by
      refine mod_of_int (z := -1 - (n : Int)) Q 1 ?_ ?_
      · rw [hQ]; unfold all1; omega
      · omega
    have e2 : (2 ^ 128 - n) % 2 ^ w = (2 ^ w - n) % 2 ^ w := by
      refine mod_of_int (z := - (n : Int)) Q 1 ?_ ?_
      · rw [hQ]; omega
      · omega
    rw [e1, e2]
  · rfl

theorem ext_law (w : Int) (n : Nat) (hi lo : Int) : extT w n hi lo = rpartT w n hi lo := by
  unfold extT rpartT
  split
  · rename_i h
    have hw := h.1.1
    obtain ⟨k, hk⟩ := Int.eq_ofNat_of_zero_le (show 0 ≤ hi - lo + 1 by omega)
    rw [hk, msk (by omega), Int.toNat_natCast]
  · rfl

theorem zext_law (w : Int) (n : Nat) (v : Int) : (if isN w n then makeT v n else bt 0 0) = rextT w n v false := by
  unfold rextT
  by_cases h : isN w n
  · rw [if_pos h, makeT]
    by_cases hv : 1 ≤ v ∧ v ≤ 128
    · rw [if_pos hv, if_pos ⟨h, hv⟩]
      obtain ⟨v, rfl⟩ := Int.eq_ofNat_of_zero_le (show 0 ≤ v by omega)
      rw [msk (by omega)]
      rfl
    · rw [if_neg hv, if_neg (fun hh => hv hh.2)]
  · rw [if_neg h, if_neg (fun hh => h hh.1)]

theorem sgn_nat {w n : Nat} (hw : 1 ≤ w) (hw2 : w ≤ 128) (h : n < 2 ^ w) : sgn (w : Int) n = if n.testBit (w - 1) then n + (2 ^ 128 - 2 ^ w) else n := by
  rw [sgn_eq ⟨by omega, h⟩, show ((w : Int) - 1).toNat = w - 1 by omega, Int.toNat_natCast, top_bit hw hw2 h]
  simp

theorem sext_law (w : Int) (n : Nat) (v : Int) : (if isN w n then makeT v (sgn w n) else bt 0 0) = rextT w n v true := by
  unfold rextT
  by_cases h : isN w n
  · rw [if_pos h, makeT]
    by_cases hv : 1 ≤ v ∧ v ≤ 128
    · rw [if_pos hv, if_pos ⟨h, hv⟩]
      obtain ⟨v, rfl⟩ := Int.eq_ofNat_of_zero_le (show 0 ≤ v by omega)
      have hw := h.1
      obtain ⟨w, rfl⟩ := Int.eq_ofNat_of_zero_le (show 0 ≤ w by omega)
      have hlt : n < 2 ^ w := h.2
      rw [msk (by omega), sgn_nat (by omega) (by omega) hlt, Int.toNat_natCast, Int.toNat_natCast, Bool.true_and, fillN]
      cases n.testBit (w - 1)
      · rfl
      · rw [if_pos rfl, if_pos rfl, Nat.mod_eq_of_lt hlt]
        obtain ⟨Q, hQ⟩ := p128i (w := v) (by omega)
        have hP : 2 ^ w ≤ 2 ^ 128 := Nat.pow_le_pow_right (by omega) (by omega)
        congr 1
        refine mod_of_int (z := (n : Int) - ((2 ^ w : Nat) : Int)) Q ((2 ^ w : Nat) : Int) ?_ ?_
        · rw [hQ]; omega
        · have e : 2 ^ w * (2 ^ v - 1) = 2 ^ w * 2 ^ v - 2 ^ w := by rw [Nat.mul_sub, Nat.mul_one]
          have h1 := Nat.pow_pos (n := v) (show 0 < 2 by omega)
          have h2 : 2 ^ w * 1 ≤ 2 ^ w * 2 ^ v := Nat.mul_le_mul_left _ h1
          have h3 : ((2 ^ v : Nat) : Int) * ((2 ^ w : Nat) : Int) = ((2 ^ w * 2 ^ v : Nat) : Int) := by rw [← Int.natCast_mul, Nat.mul_comm]
          rw [e, h3]
          omega
    · rw [if_neg hv, if_neg (fun hh => hv hh.2)]
  · rw [if_neg h, if_neg (fun hh => h hh.1)]

theorem ins_law (w : Int) (n : Nat) (lo w2 : Int) (n2 : Nat) : insT w n lo w2 n2 = rinsT w n lo w2 n2 := by
  unfold insT rinsT
  split
  · rename_i h
    have hw := h.1.1
    have hw2 := h.2.1.1
    obtain ⟨w, rfl⟩ := Int.eq_ofNat_of_zero_le (show 0 ≤ w by omega)
    obtain ⟨w2, rfl⟩ := Int.eq_ofNat_of_zero_le (show 0 ≤ w2 by omega)
    obtain ⟨lo, rfl⟩ := Int.eq_ofNat_of_zero_le (show 0 ≤ lo by omega)
    have hlt : n < 2 ^ w := h.1.2
    have hlt2 : n2 < 2 ^ w2 := h.2.1.2
    rw [msk (by omega), Int.toNat_natCast, Int.toNat_natCast, Int.toNat_natCast]
    congr 1
    apply Nat.eq_of_testBit_eq
    intro i
    have hX : maskN (w2 : Int) * 2 ^ lo % 2 ^ 128 < 2 ^ 128 := mod_lt128 _
    have e1 : all1 - maskN (w2 : Int) * 2 ^ lo % 2 ^ 128 = 2 ^ 128 - (maskN (w2 : Int) * 2 ^ lo % 2 ^ 128 + 1) := by unfold all1; omega
    rw [ofL_bit, insB_get, Nat.testBit_mod_two_pow, Nat.testBit_or, Nat.testBit_and, e1, Nat.testBit_two_pow_sub_succ hX, Nat.testBit_mod_two_pow, Nat.testBit_mod_two_pow, tb_mul, tb_mul, maskN_eq (by omega) (by omega), Nat.testBit_two_pow_sub_one, Int.toNat_natCast]
    by_cases hi : i < w
    · rw [if_pos hi, decide_eq_true hi, decide_eq_true (show i < 128 by omega), Option.getD_some]
      by_cases h1 : lo ≤ i
      · by_cases h2 : i < lo + w2
        · rw [if_pos ⟨h1, h2⟩, decide_eq_true h1, decide_eq_true (show i - lo < w2 by omega)]; simp
        · have : n2.testBit (i - lo) = false := Nat.testBit_lt_two_pow (Nat.lt_of_lt_of_le hlt2 (Nat.pow_le_pow_right (by omega) (by omega)))
          rw [if_neg (by omega), decide_eq_true h1, decide_eq_false (show ¬ i - lo < w2 by omega), this]; simp
      · rw [if_neg (by omega), decide_eq_false h1]; simp
    · rw [if_neg hi, decide_eq_false hi]; rfl
  · rfl

end Go.Proofs.Ytkjhkcpgkccocaa
