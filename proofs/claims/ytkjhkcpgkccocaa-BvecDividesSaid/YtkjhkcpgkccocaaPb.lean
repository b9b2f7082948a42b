/-
  The plain law of the operations on two.
-/
import Derived.Test.YtkjhkcpgkccocaaPa
namespace Go.Proofs.Ytkjhkcpgkccocaa
open Go.IntWalk
set_option maxRecDepth 100000
set_option linter.unusedVariables false
set_option linter.unusedSimpArgs false

theorem pow_half_nat {w : Nat} (h : 1 ≤ w) : 2 ^ w = 2 * 2 ^ (w - 1) := by
  have := pow_half (w := (w : Int)) (by omega)
  rwa [show ((w : Int) - 1).toNat = w - 1 by omega, Int.toNat_natCast] at this

theorem pow_le128 {w : Nat} (h : w ≤ 128) : 2 ^ w ≤ 340282366920938463463374607431768211456 := Nat.pow_le_pow_right (n := 2) (by omega) h

theorem negB_nat {w n : Nat} (hw : 1 ≤ w) (hw2 : w ≤ 128) (h : n < 2 ^ w) : negB (w : Int) n = n.testBit (w - 1) := by
  rw [negB, sgn_nat hw hw2 h, top_bit hw hw2 h, decide_eq_decide]
  have h1 := pow_half_nat hw
  have h2 := pow_le128 hw2
  by_cases hc : 2 ^ (w - 1) ≤ n
  · rw [decide_eq_true hc, if_pos rfl]; omega
  · rw [decide_eq_false hc, if_neg (by simp)]; omega

theorem neg_pos {w n : Nat} (hw : 1 ≤ w) (hw2 : w ≤ 128) (h : n < 2 ^ w) (ht : n.testBit (w - 1) = true) : 0 < n := by
  rcases Nat.eq_zero_or_pos n with h0 | h0
  · rw [h0] at ht; simp at ht
  · exact h0

theorem negN_sgn {w n : Nat} (hw : 1 ≤ w) (hw2 : w ≤ 128) (h : n < 2 ^ w) (ht : n.testBit (w - 1) = true) : negN (sgn (w : Int) n) = negW n w := by
  rw [sgn_nat hw hw2 h, if_pos ht, negN, negW, Nat.mod_eq_of_lt h]
  have h0 := neg_pos hw hw2 h ht
  have h2 := pow_le128 hw2
  rw [Nat.mod_eq_of_lt (by omega), Nat.mod_eq_of_lt (by omega)]
  omega

theorem negN_mod {w q : Nat} (hw2 : w ≤ 128) (h : q < 2 ^ w) : negN q % 2 ^ w = negW q w % 2 ^ w := by
  rw [negN, mm hw2, negW, Nat.mod_mod, Nat.mod_eq_of_lt h]
  obtain ⟨Q, hQ⟩ := p128i hw2
  have h2 := pow_le128 hw2
  refine mod_of_int (z := - (q : Int)) Q 1 ?_ ?_
  · rw [hQ]; omega
  · omega

theorem div_law {op : Int} {w n n2 : Nat} (hw : 1 ≤ w) (hw2 : w ≤ 128) (h : n < 2 ^ w) (h2 : n2 < 2 ^ w) (s : Bool) (hs : decide (op = 12 ∨ op = 13) = s) :
    divT op w n n2 = if op = 11 ∨ op = 13 then bt w (rrem s n n2 w % 2 ^ w) else bt w (rquo s n n2 w % 2 ^ w) := by
  have hm : maskN (w : Int) &&& maskN (w : Int) = (2 ^ w - 1) % 2 ^ w := by
    rw [msk hw2, maskN_eq (by omega) (by omega), Int.toNat_natCast]
  unfold divT
  by_cases h0 : n2 = 0
  · rw [if_pos h0, rrem, rquo, if_pos h0, if_pos h0, hm, Nat.mod_eq_of_lt h]
  · rw [if_neg h0, rrem, rquo, if_neg h0, if_neg h0, hs, negB_nat hw hw2 h, negB_nat hw hw2 h2]
    have lt : ∀ z, z < 2 ^ w → ∀ y, z / y < 2 ^ w := fun z hz y => Nat.lt_of_le_of_lt (Nat.div_le_self _ _) hz
    have lt' : ∀ z, z < 2 ^ w → ∀ y, z % y < 2 ^ w := fun z hz y => Nat.lt_of_le_of_lt (Nat.mod_le _ _) hz
    have hnw := negW_lt n w
    simp only [rsign, rabs, msk hw2]
    have hb : ∀ (a b : Bool) (x y : Nat), x < 2 ^ w → (if op = 11 ∨ op = 13 then bt w ((if a = true then negN (x % y) else x % y) % 2 ^ w) else bt w ((if (a != b) = true then negN (x / y) else x / y) % 2 ^ w)) =
        (if op = 11 ∨ op = 13 then bt w ((if a = true then negW (x % y) w else x % y) % 2 ^ w) else bt w ((if (a != b) = true then negW (x / y) w else x / y) % 2 ^ w)) := by
      intro a b x y hx
      have e1 : (if a = true then negN (x % y) else x % y) % 2 ^ w = (if a = true then negW (x % y) w else x % y) % 2 ^ w := by
        cases a
        · rfl
        · exact negN_mod hw2 (lt' x hx y)
      have e2 : (if (a != b) = true then negN (x / y) else x / y) % 2 ^ w = (if (a != b) = true then negW (x / y) w else x / y) % 2 ^ w := by
        cases (a != b)
        · rfl
        · exact negN_mod hw2 (lt x hx y)
      rw [e1, e2]
    have ex : (if (s && n.testBit (w - 1)) = true then negN (sgn (w : Int) n) else n) = (if (s && n.testBit (w - 1)) = true then negW n w else n) := by
      by_cases c : (s && n.testBit (w - 1)) = true
      · rw [if_pos c, if_pos c, negN_sgn hw hw2 h (by simp at c; exact c.2)]
      · rw [if_neg c, if_neg c]
    have ey : (if (s && n2.testBit (w - 1)) = true then negN (sgn (w : Int) n2) else n2) = (if (s && n2.testBit (w - 1)) = true then negW n2 w else n2) := by
      by_cases c : (s && n2.testBit (w - 1)) = true
      · rw [if_pos c, if_pos c, negN_sgn hw hw2 h2 (by simp at c; exact c.2)]
      · rw [if_neg c, if_neg c]
    rw [ex, ey]
    exact hb _ _ _ _ (by split <;> assumption)

theorem flip_xor {x : Nat} (h : x < 2 ^ 128) : x ^^^ flip = if 2 ^ 127 ≤ x then x - 2 ^ 127 else x + 2 ^ 127 := by
  have low : ∀ y, y < 2 ^ 127 → y ^^^ 2 ^ 127 = y + 2 ^ 127 := by
    intro y hy
    apply Nat.eq_of_testBit_eq
    intro i
    have e : y + 2 ^ 127 = 2 ^ 127 * 1 + y := by omega
    rw [e, Nat.testBit_two_pow_mul_add _ hy, Nat.testBit_xor, Nat.testBit_two_pow]
    by_cases hi : i < 127
    · rw [if_pos hi, decide_eq_false (by omega)]; simp
    · rw [if_neg hi, Nat.testBit_lt_two_pow (Nat.lt_of_lt_of_le hy (Nat.pow_le_pow_right (by omega) (by omega)))]
      by_cases h7 : i = 127
      · subst h7; rfl
      · rw [decide_eq_false (fun hh => h7 hh.symm)]
        have : (1 : Nat).testBit (i - 127) = false := Nat.testBit_lt_two_pow (Nat.one_lt_two_pow (by omega))
        rw [this]; rfl
  show x ^^^ 2 ^ 127 = _
  split
  · rename_i hx
    have h1 := low (x - 2 ^ 127) (by omega)
    have h2 : x = (x - 2 ^ 127) ^^^ 2 ^ 127 := by rw [h1]; omega
    conv => lhs; rw [h2]
    rw [Nat.xor_assoc, Nat.xor_self, Nat.xor_zero]
  · exact low x (by omega)

theorem lts_law {w n n2 : Nat} (hw : 1 ≤ w) (hw2 : w ≤ 128) (h : n < 2 ^ w) (h2 : n2 < 2 ^ w) : decide ((sgn (w : Int) n ^^^ flip) < (sgn (w : Int) n2 ^^^ flip)) = rlts n n2 w := by
  have hp := pow_half_nat hw
  have hP := pow_le128 hw2
  have l1 : sgn (w : Int) n < 2 ^ 128 := sgn_lt (by omega)
  have l2 : sgn (w : Int) n2 < 2 ^ 128 := sgn_lt (by omega)
  rw [flip_xor l1, flip_xor l2, rlts, sgn_nat hw hw2 h, sgn_nat hw hw2 h2, top_bit hw hw2 h, top_bit hw hw2 h2]
  by_cases ha : 2 ^ (w - 1) ≤ n <;> by_cases hb : 2 ^ (w - 1) ≤ n2
  · rw [decide_eq_true ha, decide_eq_true hb, if_pos (rfl : true = true), if_pos (rfl : true = true), if_pos (by omega), if_pos (by omega)]
    simp only [bne_self_eq_false, Bool.and_true, Bool.false_or, beq_self_eq_true, Bool.true_and, decide_eq_decide]
    omega
  · rw [decide_eq_true ha, decide_eq_false hb, if_pos (rfl : true = true), if_neg Bool.false_ne_true, if_pos (by omega), if_neg (by omega)]
    rw [decide_eq_true (by omega)]; rfl
  · rw [decide_eq_false ha, decide_eq_true hb, if_neg Bool.false_ne_true, if_pos (rfl : true = true), if_neg (by omega), if_pos (by omega)]
    rw [decide_eq_false (by omega)]; rfl
  · rw [decide_eq_false ha, decide_eq_false hb, if_neg Bool.false_ne_true, if_neg Bool.false_ne_true, if_neg (by omega), if_neg (by omega)]
    simp only [bne_self_eq_false, Bool.and_false, Bool.false_or, beq_self_eq_true, Bool.true_and, decide_eq_decide]
    omega

theorem sar_mod {w n a : Nat} (hw : 1 ≤ w) (hw2 : w ≤ 128) (h : n < 2 ^ w) (ha : a < w) : ((n + (2 ^ 128 - 2 ^ w)) / 2 ^ a ||| (all1 - maskN (128 - (a : Int)))) % 2 ^ w = (n / 2 ^ a % 2 ^ (w - a) + 2 ^ (w - a) * (2 ^ w - 1)) % 2 ^ w := by
  have hP := pow_le128 hw2
  have q1 : n / 2 ^ a < 2 ^ (w - a) := by
    rw [Nat.div_lt_iff_lt_mul (Nat.pow_pos (by omega)), ← Nat.pow_add, show w - a + a = w by omega]; exact h
  have q2 : (n + (2 ^ 128 - 2 ^ w)) / 2 ^ a = n / 2 ^ a + (2 ^ (128 - a) - 2 ^ (w - a)) := by
    have : 2 ^ 128 - 2 ^ w = 2 ^ a * (2 ^ (128 - a) - 2 ^ (w - a)) := by
      rw [Nat.mul_sub, ← Nat.pow_add, ← Nat.pow_add, show a + (128 - a) = 128 by omega, show a + (w - a) = w by omega]
    rw [this, Nat.add_mul_div_left _ _ (Nat.pow_pos (by omega))]
  have q3 : all1 - maskN (128 - (a : Int)) = (2 ^ a - 1) * 2 ^ (128 - a) := by
    rw [maskN_eq (by omega) (by omega), show ((128 : Int) - a).toNat = 128 - a by omega, Nat.sub_mul, ← Nat.pow_add, show a + (128 - a) = 128 by omega]
    have := Nat.pow_pos (n := 128 - a) (show 0 < 2 by omega)
    have := Nat.pow_le_pow_right (n := 2) (by omega) (show 128 - a ≤ 128 by omega)
    unfold all1; omega
  have q4 : (2 : Nat) ^ (w - a) ≤ 2 ^ (128 - a) := Nat.pow_le_pow_right (by omega) (by omega)
  have q5 : n / 2 ^ a + (2 ^ (128 - a) - 2 ^ (w - a)) < 2 ^ (128 - a) := by omega
  rw [q2, q3, Nat.or_comm, or_add q5, Nat.mod_eq_of_lt q1]
  obtain ⟨Q, hQ⟩ := p128i hw2
  have q6 : (2 ^ a - 1) * 2 ^ (128 - a) = 340282366920938463463374607431768211456 - 2 ^ (128 - a) := by
    rw [Nat.sub_mul, ← Nat.pow_add, show a + (128 - a) = 128 by omega, Nat.one_mul]
  have q7 : (2 : Nat) ^ (128 - a) ≤ 340282366920938463463374607431768211456 := pow_le128 (by omega)
  have q8 : 2 ^ (w - a) * (2 ^ w - 1) = 2 ^ (w - a) * 2 ^ w - 2 ^ (w - a) := by rw [Nat.mul_sub, Nat.mul_one]
  have q9 : 2 ^ (w - a) * 1 ≤ 2 ^ (w - a) * 2 ^ w := Nat.mul_le_mul_left _ (Nat.pow_pos (by omega))
  have q10 : ((2 ^ w : Nat) : Int) * ((2 ^ (w - a) : Nat) : Int) = ((2 ^ (w - a) * 2 ^ w : Nat) : Int) := by rw [← Int.natCast_mul, Nat.mul_comm]
  refine mod_of_int (z := ((n / 2 ^ a : Nat) : Int) - ((2 ^ (w - a) : Nat) : Int)) Q ((2 ^ (w - a) : Nat) : Int) ?_ ?_
  · rw [hQ, q6]
    generalize n / 2 ^ a = x at *
    generalize 2 ^ (w - a) = y at *
    generalize 2 ^ (128 - a) = z at *
    omega
  · rw [q8, q10]
    generalize n / 2 ^ a = x at *
    generalize 2 ^ (w - a) * 2 ^ w = u at *
    generalize 2 ^ (w - a) = y at *
    omega

end Go.Proofs.Ytkjhkcpgkccocaa
