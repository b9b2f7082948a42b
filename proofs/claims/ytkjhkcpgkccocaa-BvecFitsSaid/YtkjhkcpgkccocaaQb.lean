/-
  The laws' walks: which numbers fit.
-/
import Derived.Test.YtkjhkcpgkccocaaQa
namespace Go.Proofs.Ytkjhkcpgkccocaa
open Go.IntWalk
set_option maxRecDepth 100000
set_option linter.unusedVariables false
set_option linter.unusedSimpArgs false

theorem big_div {n k : Nat} (h : n < 9223372036854775808) (hk : 63 ≤ k) : n / 2 ^ k = 0 := by
  have : 2 ^ 63 ≤ 2 ^ k := Nat.pow_le_pow_right (by omega) hk
  exact Nat.div_eq_of_lt (by omega)

theorem fitsU_law (n w : Int) (hn : -9223372036854775808 ≤ n ∧ n ≤ 9223372036854775807) : rfitsU n w = fitsU n w := by
  rw [rfitsU, fitsU, decide_eq_decide]
  constructor
  · rintro ⟨h1, h2, h3⟩; exact ⟨h1, h2, .inr h3⟩
  · rintro ⟨h1, h2, h3 | h3⟩
    · exact ⟨h1, h2, big_div (by omega) (by omega)⟩
    · exact ⟨h1, h2, h3⟩

/-- Just the numbers below the half. -/
theorem fdiv_half (n : Int) (k : Nat) (hn : -9223372036854775808 ≤ n ∧ n ≤ 9223372036854775807) : n.fdiv (2 ^ k) = n.fdiv 9223372036854775808 ↔ -((2 ^ k : Nat) : Int) ≤ n ∧ n < ((2 ^ k : Nat) : Int) := by
  have hp : 0 < 2 ^ k := Nat.pow_pos (by omega)
  have e : ((2 : Int) ^ k) = ((2 ^ k : Nat) : Int) := by simp
  rw [e]
  generalize 2 ^ k = p at *
  rw [Int.fdiv_eq_ediv_of_nonneg _ (by omega), Int.fdiv_eq_ediv_of_nonneg _ (by omega)]
  have h1 := Int.mul_ediv_add_emod n (p : Int)
  have h2 := Int.emod_nonneg n (show (p : Int) ≠ 0 by omega)
  have h3 := Int.emod_lt_of_pos n (show (0 : Int) < p by omega)
  generalize n % (p : Int) = r at *
  by_cases h0 : 0 ≤ n
  · have e1 : n / 9223372036854775808 = 0 := by omega
    rw [e1]
    constructor
    · intro h; rw [h, Int.mul_zero] at h1; omega
    · intro h; exact Int.ediv_eq_zero_of_lt h0 h.2
  · have e1 : n / 9223372036854775808 = -1 := by omega
    rw [e1]
    constructor
    · intro h; rw [h] at h1; omega
    · intro h
      have : (n + p) / (p : Int) = 0 := Int.ediv_eq_zero_of_lt (by omega) (by omega)
      rw [Int.add_ediv_of_dvd_right (Int.dvd_refl _), Int.ediv_self (by omega)] at this
      omega

theorem fitsS_eq (n w : Int) (hn : -9223372036854775808 ≤ n ∧ n ≤ 9223372036854775807) : fitsS n w = decide (1 ≤ w ∧ -((2 ^ (w - 1).toNat : Nat) : Int) ≤ n ∧ n < ((2 ^ (w - 1).toNat : Nat) : Int)) := by
  rw [fitsS, decide_eq_decide, fdiv_half n _ hn]
  constructor
  · rintro ⟨h1, h2 | h2⟩
    · have : 2 ^ 63 ≤ 2 ^ (w - 1).toNat := Nat.pow_le_pow_right (by omega) (by omega)
      exact ⟨h1, by omega, by omega⟩
    · exact ⟨h1, h2⟩
  · rintro ⟨h1, h2⟩; exact ⟨h1, .inr h2⟩

theorem fitsS_law (n w : Int) (hn : -9223372036854775808 ≤ n ∧ n ≤ 9223372036854775807) : rfitsS n w = fitsS n w := by
  rw [rfitsS, fitsS_eq n w hn, decide_eq_decide]
  have hp : 0 < 2 ^ (w - 1).toNat := Nat.pow_pos (by omega)
  rw [Nat.div_eq_zero_iff]
  generalize 2 ^ (w - 1).toNat = p at *
  split <;> constructor <;> rintro ⟨h1, h2⟩ <;> exact ⟨h1, by omega⟩

theorem bnot_self (b : Bool) : (b != b) = false := by simp

theorem fits_pre {n w : Int} (hn : -9223372036854775808 ≤ n ∧ n ≤ 9223372036854775807) (hw : w ≤ 9223372036854775807) {u s : Bool} (hu : fitsU n w = u) (hs : fitsS n w = s) :
    Runs Try.prog 28 [.int .i64 n, .int .i64 w] (.t (.bool u)) ∧ Runs Try.prog 29 [.int .i64 n, .int .i64 w] (.t (.bool s)) ∧
    Runs Try.prog 30 [.int .i64 n, .int .i64 w] (.t (.bool u)) ∧ Runs Try.prog 31 [.int .i64 n, .int .i64 w] (.t (.bool s)) := by
  subst hu hs
  refine ⟨fitsU_runs n w, fitsS_runs n w hn, ?_, ?_⟩
  · rw [← fitsU_law n w hn]; exact rfitsU_runs n w hn.2 hw
  · rw [← fitsS_law n w hn]; exact rfitsS_runs n w hn hw

/-- A number's lowest bits. -/
def lowN (n : Int) (w : Nat) : Nat := of128 n % 2 ^ w

theorem lowN_mod {n : Int} {w : Nat} (hw : w ≤ 128) : ((lowN n w : Nat) : Int) = n % ((2 ^ w : Nat) : Int) := by
  obtain ⟨Q, hQ⟩ := p128i hw
  have e : ((of128 n : Nat) : Int) = n % 340282366920938463463374607431768211456 := by unfold of128; omega
  rw [lowN, Int.natCast_emod, e, ← hQ]
  exact Int.emod_emod_of_dvd _ (Int.dvd_mul_right _ _)

theorem int_ok {w m : Nat} (hw : 1 ≤ w) (hw2 : w ≤ 128) (h : m < 2 ^ w) (h2 : m < 9223372036854775808) (h3 : m < 2 ^ (w - 1)) : intR (w : Int) m = .tup [.t (.int .i64 (m : Int)), .t (.bool true)] := by
  have hs : sval (w : Int) m = m := by rw [sval_nat, if_neg (by omega)]
  rw [intR, hs, if_pos ⟨⟨by omega, h⟩, by omega, by omega⟩]

theorem emod_neg {n : Int} {p : Nat} (h : -(p : Int) ≤ n) (h2 : n < 0) : n % (p : Int) = n + p := by
  have := Int.add_mul_emod_self_left n (p : Int) 1
  rw [Int.mul_one] at this
  rw [← this]
  exact Int.emod_eq_of_lt (by omega) (by omega)

theorem fitsU_low {n : Int} {w : Nat} (hn : -9223372036854775808 ≤ n ∧ n ≤ 9223372036854775807) (hw : 1 ≤ w) (hw2 : w ≤ 64) : fitsU n w = (decide (lowN n w < 9223372036854775808) && ((lowN n w : Int) == n)) := by
  have hm := lowN_mod (n := n) (w := w) (by omega)
  have hl : lowN n w < 2 ^ w := Nat.mod_lt _ (Nat.pow_pos (by omega))
  rw [fitsU, Bool.eq_iff_iff, decide_eq_true_iff, Bool.and_eq_true, decide_eq_true_iff, beq_iff_eq, Int.toNat_natCast]
  constructor
  · rintro ⟨h1, h2, h3⟩
    have hlt : n < ((2 ^ w : Nat) : Int) := by
      rcases h3 with h3 | h3
      · have : 2 ^ 63 ≤ 2 ^ w := Nat.pow_le_pow_right (by omega) (by omega)
        omega
      · rw [Nat.div_eq_zero_iff] at h3
        have := Nat.pow_pos (n := w) (show 0 < 2 by omega)
        omega
    rw [Int.emod_eq_of_lt h2 hlt] at hm
    omega
  · rintro ⟨h1, h2⟩
    refine ⟨by omega, by omega, .inr ?_⟩
    exact Nat.div_eq_of_lt (by omega)

theorem fitsS_low {n : Int} {w : Nat} (hn : -9223372036854775808 ≤ n ∧ n ≤ 9223372036854775807) (hw : 1 ≤ w) (hw2 : w ≤ 64) : fitsS n w = (sval w (lowN n w) == n) := by
  have hm := lowN_mod (n := n) (w := w) (by omega)
  have hl : lowN n w < 2 ^ w := Nat.mod_lt _ (Nat.pow_pos (by omega))
  have hp := pow_half_nat hw
  rw [fitsS_eq n w hn, sval_nat, Bool.eq_iff_iff, decide_eq_true_iff, beq_iff_eq, show ((w : Int) - 1).toNat = w - 1 by omega]
  rw [hp] at hm hl
  constructor
  · rintro ⟨h1, h2, h3⟩
    by_cases h0 : 0 ≤ n
    · rw [Int.emod_eq_of_lt h0 (by omega)] at hm
      rw [if_neg (by omega)]; omega
    · rw [emod_neg (by omega) (by omega)] at hm
      rw [if_pos (by omega), hp]; omega
  · intro h
    refine ⟨by omega, ?_⟩
    by_cases hc : 2 ^ (w - 1) ≤ lowN n w
    · rw [if_pos hc, hp] at h; omega
    · rw [if_neg hc] at h; omega

theorem fits_runs (n w : Int) (hn : -9223372036854775808 ≤ n ∧ n ≤ 9223372036854775807) (hw : -9223372036854775808 ≤ w ∧ w ≤ 9223372036854775807) : Runs Try.prog 10 [.int .i64 n, .int .i64 w] (.t (.bool true)) := by
  refine Runs.of_call ?_ rfl
  refine CallS.of_fn tab_ok reg_ok Try.func10 rfl rfl ?_
  rcases Int.lt_or_le w 1 with h1 | h1
  · obtain ⟨c1, c2, c3, c4⟩ := fits_pre hn hw.2 (u := false) (s := false) (decide_eq_false fun h => by omega) (decide_eq_false fun h => by omega)
    refine CallS.pure alive_runs rfl (CallS.pure c1 rfl (CallS.pure c2 rfl (CallS.pure c3 rfl (CallS.pure c4 rfl ?_))))
    refine br_intro (fun _ => ?_) (fun h => absurd (of_decide_eq_false h) (by omega))
    refine br_intro (fun _ => ?_) (fun h => absurd (of_decide_eq_false h) (by omega))
    exact And.intro rfl rfl
  rcases Int.lt_or_le 64 w with h2 | h2
  · have hu : fitsU n w = decide (0 ≤ n) := by
      rw [fitsU, decide_eq_decide]
      exact ⟨fun h => h.2.1, fun h => ⟨by omega, h, .inl (by omega)⟩⟩
    have hs : fitsS n w = true := decide_eq_true ⟨by omega, .inl (by omega)⟩
    obtain ⟨c1, c2, c3, c4⟩ := fits_pre hn hw.2 hu hs
    refine CallS.pure alive_runs rfl (CallS.pure c1 rfl (CallS.pure c2 rfl (CallS.pure c3 rfl ?_)))
    refine br_intro (fun h => absurd h (by simp)) (fun _ => ?_)
    refine CallS.pure c4 rfl ?_
    refine br_intro (fun h => absurd (of_decide_eq_true h) (by omega)) (fun _ => ?_)
    refine br_intro (fun _ => ?_) (fun h => absurd (of_decide_eq_false h) (by omega))
    refine br_intro (fun h => absurd (of_decide_eq_true h) (by omega)) (fun _ => ?_)
    refine br_intro (fun _ => ?_) (fun h => absurd (of_decide_eq_false h) (by omega))
    exact And.intro (congrArg (fun b => some (T.bool b)) (by simp)) rfl
  obtain ⟨w, rfl⟩ := Int.eq_ofNat_of_zero_le (show 0 ≤ w by omega)
  have hm : lowN n w < 2 ^ w := Nat.mod_lt _ (Nat.pow_pos (by omega))
  have hm128 : 2 ^ w ≤ 2 ^ 64 := Nat.pow_le_pow_right (by omega) (by omega)
  have hN : isN (w : Int) (lowN n w) := ⟨by omega, hm⟩
  have f1 : Runs Try.prog 17 [.int .i64 (w : Int), .int .i64 n] (.t (bt w (lowN n w))) := fa hn (by rw [makeT, if_pos (by omega), msk (by omega)]; rfl)
  have f2 := int_runs (w : Int) (lowN n w) (by omega)
  have hs := fitsS_low hn (w := w) (by omega) (by omega)
  have hu := fitsU_low hn (w := w) (by omega) (by omega)
  have hp := pow_half_nat (w := w) (by omega)
  have e2 : intR (w : Int) (lowN n w) = .tup [.t (.int .i64 (sval w (lowN n w))), .t (.bool true)] := by
    have hr : -9223372036854775808 ≤ sval (w : Int) (lowN n w) ∧ sval (w : Int) (lowN n w) < 9223372036854775808 := by
      rw [sval_nat]
      split <;> omega
    rw [intR, if_pos ⟨hN, hr⟩]
  rw [e2] at f2
  have f3 := zext_runs (w : Int) (lowN n w) 128 (by omega)
  have e3 : (if isN (w : Int) (lowN n w) then makeT 128 (lowN n w) else bt 0 0) = bt 128 (lowN n w) := by
    rw [if_pos hN, makeT, if_pos (by omega), show (128 : Int) = ((128 : Nat) : Int) from rfl, msk (by omega), Nat.mod_eq_of_lt (by omega)]
  rw [e3] at f3
  have f4 := int_runs 128 (lowN n w) (by omega)
  have e4 : sval 128 (lowN n w) = lowN n w := by
    rw [show (128 : Int) = ((128 : Nat) : Int) from rfl, sval_nat, if_neg (by omega)]
  by_cases hb : lowN n w < 9223372036854775808
  · rw [decide_eq_true hb, Bool.true_and] at hu
    obtain ⟨c1, c2, c3, c4⟩ := fits_pre hn hw.2 hu hs
    have e5 : intR 128 (lowN n w) = .tup [.t (.int .i64 (lowN n w : Int)), .t (.bool true)] := by
      rw [intR, e4, if_pos ⟨⟨by omega, by show lowN n w < 2 ^ 128; omega⟩, by omega, by omega⟩]
    rw [e5] at f4
    refine CallS.pure alive_runs rfl (CallS.pure c1 rfl (CallS.pure c2 rfl (CallS.pure c3 rfl ?_)))
    refine br_intro (fun h => absurd h (by simp)) (fun _ => ?_)
    refine CallS.pure c4 rfl ?_
    refine br_intro (fun h => absurd h (by simp)) (fun _ => ?_)
    refine br_intro (fun h => absurd (of_decide_eq_true h) (by omega)) (fun _ => ?_)
    refine br_intro (fun h => absurd (of_decide_eq_true h) (by omega)) (fun _ => ?_)
    refine CallS.pure f1 rfl (CallS.pure f2 rfl ?_)
    refine CallS.pure f1 rfl (CallS.pure f3 rfl (CallS.pure f4 rfl ?_))
    refine br_intro (fun _ => ?_) (fun h => absurd h (by simp))
    exact And.intro (congrArg (fun b => some (T.bool b)) (by simp)) rfl
  · rw [decide_eq_false hb, Bool.false_and] at hu
    obtain ⟨c1, c2, c3, c4⟩ := fits_pre hn hw.2 hu hs
    have e5 : intR 128 (lowN n w) = .tup [.t (.int .i64 0), .t (.bool false)] := by
      rw [intR, e4, if_neg (fun hh => by omega)]
    rw [e5] at f4
    refine CallS.pure alive_runs rfl (CallS.pure c1 rfl (CallS.pure c2 rfl (CallS.pure c3 rfl (CallS.pure c4 rfl ?_))))
    refine br_intro (fun h => absurd h (by simp)) (fun _ => ?_)
    refine br_intro (fun h => absurd (of_decide_eq_true h) (by omega)) (fun _ => ?_)
    refine br_intro (fun h => absurd (of_decide_eq_true h) (by omega)) (fun _ => ?_)
    refine CallS.pure f1 rfl (CallS.pure f2 rfl ?_)
    refine CallS.pure f1 rfl (CallS.pure f3 rfl (CallS.pure f4 rfl ?_))
    refine br_intro (fun _ => ?_) (fun h => absurd h (by simp))
    exact And.intro rfl rfl

end Go.Proofs.Ytkjhkcpgkccocaa
