/-
  The reference's Has (walk).
-/
import Derived.Test.YtnjmeadmkbkikaaGreatDoorIk
namespace Go.Proofs.YtnjmeadmkbkikaaGreatDoor
open Go.IntWalk
set_option maxRecDepth 100000
set_option linter.unusedVariables false
set_option linter.unusedSimpArgs false
set_option maxHeartbeats 4000000

theorem powI_le {b n : Nat} (h : b ≤ n) : (2 : Int) ^ b ≤ 2 ^ n := by
  have : (2 : Nat) ^ b ≤ 2 ^ n := Nat.pow_le_pow_right (by omega) h
  have h2 : ((2 ^ b : Nat) : Int) ≤ ((2 ^ n : Nat) : Int) := by exact_mod_cast this
  simpa using h2
theorem fitsU_eq {n : Int} {b : Nat} (h1 : 1 ≤ b) (h2 : b ≤ 62) (h0 : 0 ≤ n) : fitsU n b = decide (n < 2 ^ b) := by
  obtain ⟨m, rfl⟩ := Int.eq_ofNat_of_zero_le h0
  have hp : 0 < 2 ^ b := Nat.pow_pos (by omega)
  have e : (((2 : Nat) ^ b : Nat) : Int) = 2 ^ b := by simp
  rw [fitsU, decide_eq_decide, Int.toNat_natCast, Int.toNat_natCast, Nat.div_eq_zero_iff, ← e]
  omega
theorem fitsS_eq {w b a : Int} {q : Nat} (hw : -9223372036854775808 ≤ w ∧ w ≤ 9223372036854775807) (h1 : b - 1 = (q : Int)) (h2 : q ≤ 62) (ha : a = 2 ^ q) : fitsS w b = decide (-a ≤ w ∧ w ≤ a - 1) := by
  have hp : (0 : Int) < 2 ^ q := Int.pow_pos (by omega)
  have hp2 := powI_le h2
  have hp2 : (2 : Int) ^ q ≤ 4611686018427387904 := hp2
  rw [fitsS, show (b - 1).toNat = q by omega, Int.fdiv_eq_ediv_of_nonneg _ (by omega), Int.fdiv_eq_ediv_of_nonneg _ (by decide), ← ha, decide_eq_decide]
  rw [← ha] at hp hp2
  have e0 : w / a = 0 ↔ 0 ≤ w ∧ w < a := by
    constructor
    · intro h
      have k1 := Int.emod_nonneg w (show a ≠ 0 by omega)
      have k2 := Int.emod_lt_of_pos w hp
      have k3 := Int.emod_add_mul_ediv w a
      rw [h, Int.mul_zero] at k3
      omega
    · rintro ⟨k1, k2⟩
      exact Int.ediv_eq_zero_of_lt k1 k2
  have e1 : w / a = -1 ↔ w < 0 ∧ -a ≤ w := by
    constructor
    · intro h
      have k1 := Int.emod_nonneg w (show a ≠ 0 by omega)
      have k2 := Int.emod_lt_of_pos w hp
      have k3 := Int.emod_add_mul_ediv w a
      rw [h] at k3
      omega
    · rintro ⟨k1, k2⟩
      have k3 : (w + a) / a = 0 := Int.ediv_eq_zero_of_lt (by omega) (by omega)
      have k4 : (w + a) / a = w / a + 1 := by
        have := Int.add_mul_ediv_right w 1 (show a ≠ 0 by omega)
        rwa [Int.one_mul] at this
      omega
  by_cases h0 : 0 ≤ w
  · have : w / 9223372036854775808 = 0 := by omega
    rw [this, e0]
    omega
  · have : w / 9223372036854775808 = -1 := by omega
    rw [this, e1]
    omega

end Go.Proofs.YtnjmeadmkbkikaaGreatDoor
