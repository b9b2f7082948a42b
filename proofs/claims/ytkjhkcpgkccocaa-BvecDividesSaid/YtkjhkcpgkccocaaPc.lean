/-
  The plain law of the operations on two, whole.
-/
import Derived.Test.YtkjhkcpgkccocaaPb
namespace Go.Proofs.Ytkjhkcpgkccocaa
open Go.IntWalk
set_option maxRecDepth 100000
set_option linter.unusedVariables false
set_option linter.unusedSimpArgs false

theorem shift_law (op : Int) {w n n2 : Nat} (hop : op = 7 ∨ op = 8 ∨ op = 9) (hw : 1 ≤ w) (hw2 : w ≤ 128) (h : n < 2 ^ w) : shiftT op w n n2 = bt w (shiftN op n w (min (ramt w n2) w) % 2 ^ w) := by
  have hz : n / 2 ^ w = 0 := Nat.div_eq_of_lt h
  by_cases ha : n2 < w
  · have e1 : amt (w : Int) n2 = n2 := by rw [amt, if_pos (by omega)]
    have e2 : min (ramt w n2) w = n2 := by rw [ramt, if_pos ha]; omega
    rw [e2]
    have ne : ¬ n2 = 128 := by omega
    have shr : ∀ op : Int, op ≠ 7 → (decide (op = 9) && n.testBit (w - 1)) = false → shrV (w : Int) n n2 = bt w (shiftN op n w n2 % 2 ^ w) := fun op h7 h9 => by
      rw [shrV, e1, if_neg ne, msk hw2, shiftN, if_neg h7, h9]; rfl
    rcases hop with rfl | rfl | rfl
    · have : shiftT 7 (w : Int) n n2 = shlV w n n2 := rfl
      rw [this, shlV, e1, if_neg ne, msk hw2, mm hw2, shiftN, if_pos rfl]
    · have : shiftT 8 (w : Int) n n2 = shrV w n n2 := rfl
      rw [this, shr 8 (by omega) rfl]
    · have : shiftT 9 (w : Int) n n2 = sarV w n n2 := rfl
      rw [this, sarV, negB_nat hw hw2 h]
      cases ht : n.testBit (w - 1)
      · rw [if_neg Bool.false_ne_true, shr 9 (by omega) (by rw [ht]; rfl)]
      · rw [if_pos rfl, e1, if_neg ne, msk hw2, sgn_nat hw hw2 h, if_pos ht, shiftN, if_neg (by omega), ht]
        have := sar_mod hw hw2 h ha
        rw [this]
        rfl
  · have e1 : amt (w : Int) n2 = 128 := by rw [amt, if_neg (by omega)]
    have e2 : min (ramt w n2) w = w := by rw [ramt, if_neg ha]; omega
    rw [e2]
    have shr : ∀ op : Int, op ≠ 7 → (decide (op = 9) && n.testBit (w - 1)) = false → shrV (w : Int) n n2 = bt w (shiftN op n w w % 2 ^ w) := fun op h7 h9 => by
      rw [shrV, e1, if_pos rfl, shiftN, if_neg h7, h9, fillN, if_neg Bool.false_ne_true, hz, Nat.zero_mod]
    rcases hop with rfl | rfl | rfl
    · have : shiftT 7 (w : Int) n n2 = shlV w n n2 := rfl
      rw [this, shlV, e1, if_pos rfl, shiftN, if_pos rfl, Nat.mul_mod_left]
    · have : shiftT 8 (w : Int) n n2 = shrV w n n2 := rfl
      rw [this, shr 8 (by omega) rfl]
    · have : shiftT 9 (w : Int) n n2 = sarV w n n2 := rfl
      rw [this, sarV, negB_nat hw hw2 h]
      cases ht : n.testBit (w - 1)
      · rw [if_neg Bool.false_ne_true, shr 9 (by omega) (by rw [ht]; rfl)]
      · rw [if_pos rfl, e1, if_pos rfl, msk hw2, maskN_eq (by omega) (by omega), Int.toNat_natCast, shiftN, if_neg (by omega), ht]
        have : fillN (n / 2 ^ w) (w - w) w (decide ((9 : Int) = 9) && true) = 2 ^ w - 1 := by
          rw [fillN, hz, Nat.sub_self]
          simp
        rw [this]

theorem bin_law (op w : Int) (n : Nat) (w2 : Int) (n2 : Nat) : binT op w n w2 n2 = rbinT op w n w2 n2 := by
  unfold binT rbinT
  by_cases h : isN w n ∧ isN w2 n2
  · rw [if_pos h, if_pos h]
    obtain ⟨h, h2⟩ := h
    have hw := h.1
    have hw2 := h2.1
    obtain ⟨w, rfl⟩ := Int.eq_ofNat_of_zero_le (show 0 ≤ w by omega)
    obtain ⟨w2, rfl⟩ := Int.eq_ofNat_of_zero_le (show 0 ≤ w2 by omega)
    have hlt : n < 2 ^ w := h.2
    have hlt2 : n2 < 2 ^ w2 := h2.2
    rw [Int.toNat_natCast, Int.toNat_natCast]
    by_cases hs : op = 7 ∨ op = 8 ∨ op = 9
    · rw [if_pos hs, if_pos hs]
      exact shift_law op hs (by omega) (by omega) hlt
    · rw [if_neg hs, if_neg hs]
      by_cases hc : op = 17
      · rw [if_pos hc, if_pos hc]
        by_cases hl : (w : Int) + w2 ≤ 128
        · rw [if_neg (by omega), if_pos hl, show (w : Int) + (w2 : Int) = ((w2 + w : Nat) : Int) by omega, msk (by omega)]
          have h1 : n * 2 ^ w2 < 2 ^ 128 := by
            have : n * 2 ^ w2 < 2 ^ w * 2 ^ w2 := Nat.mul_lt_mul_of_pos_right hlt (Nat.pow_pos (by omega))
            rw [← Nat.pow_add] at this
            exact Nat.lt_of_lt_of_le this (Nat.pow_le_pow_right (by omega) (by omega))
          rw [Nat.mod_eq_of_lt h1, or_add hlt2, Nat.mod_eq_of_lt hlt2, Nat.mul_comm n, Nat.add_comm n2]
        · rw [if_pos (by omega), if_neg hl]
      · rw [if_neg hc, if_neg hc]
        by_cases he : (w : Int) = w2
        · rw [if_pos he, if_pos he]
          have he' : w = w2 := by omega
          subst he'
          have hw128 : w ≤ 128 := by omega
          have hw1 : 1 ≤ w := by omega
          obtain ⟨Q, hQ⟩ := p128i hw128
          have hP := pow_le128 hw128
          unfold binW rbinW
          by_cases g : op = 1
          · rw [if_pos g, if_pos g, msk hw128, mm hw128]; rfl
          rw [if_neg g, if_neg g]; clear g
          by_cases g : op = 2
          · rw [if_pos g, if_pos g, msk hw128, mm hw128, compl, Nat.mod_eq_of_lt hlt2]
            congr 1
            refine mod_of_int (z := (n : Int) - n2) Q 1 ?_ ?_
            · rw [hQ]; omega
            · omega
          rw [if_neg g, if_neg g]; clear g
          by_cases g : op = 3
          · rw [if_pos g, if_pos g, msk hw128, mm hw128]
          rw [if_neg g, if_neg g]; clear g
          by_cases g : op = 4 ∨ op = 5 ∨ op = 6
          · rw [if_pos g]
            rcases g with rfl | rfl | rfl
            · show bt w ((n &&& n2) &&& maskN (w : Int)) = _
              rw [msk hw128]; rfl
            · show bt w ((n ||| n2) &&& maskN (w : Int)) = _
              rw [msk hw128]; rfl
            · show bt w ((n ^^^ n2) &&& maskN (w : Int)) = _
              rw [msk hw128]; rfl
          rw [if_neg g, if_neg (show ¬ op = 4 by omega), if_neg (show ¬ op = 5 by omega), if_neg (show ¬ op = 6 by omega)]; clear g
          by_cases g : op = 10 ∨ op = 11 ∨ op = 12 ∨ op = 13
          · rw [if_pos g]
            rcases g with rfl | rfl | rfl | rfl
            · rw [div_law hw1 hw128 hlt hlt2 false rfl]; rfl
            · rw [div_law hw1 hw128 hlt hlt2 false rfl]; rfl
            · rw [div_law hw1 hw128 hlt hlt2 true rfl]; rfl
            · rw [div_law hw1 hw128 hlt hlt2 true rfl]; rfl
          rw [if_neg g, if_neg (show ¬ op = 10 by omega), if_neg (show ¬ op = 11 by omega), if_neg (show ¬ op = 12 by omega), if_neg (show ¬ op = 13 by omega)]; clear g
          rw [lts_law hw1 hw128 hlt hlt2]
        · rw [if_neg he, if_neg he]
  · rw [if_neg h, if_neg h]

end Go.Proofs.Ytkjhkcpgkccocaa
