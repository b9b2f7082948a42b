/-
  The document's answer on bits: which are normal; other widths; bit by bit; shifts.
-/
import Derived.Test.YtkjhkcpgkccocaaLd
namespace Go.Proofs.Ytkjhkcpgkccocaa
open Go.IntWalk
set_option maxRecDepth 100000
set_option linter.unusedVariables false
set_option linter.unusedSimpArgs false

def normS (w : Int) (n k : Nat) : St := ⟨[(1, .ptr 0 0 0 0), (3, .t (.int .i64 k))], [.box (bc w n)]⟩

theorem rnormal_runs (w : Int) (n : Nat) (hn : n < 2 ^ 128) : Runs Try.prog 24 [bt w n] (.t (.bool (decide (isN w n)))) := by
  refine Runs.of_call ?_ rfl
  refine CallS.of_fn tab_ok reg_ok Try.func24 rfl rfl ?_
  have bad : ¬ (1 ≤ w ∧ w ≤ 128) → decide (isN w n) = false := fun h => decide_eq_false fun hh => h hh.1
  refine br_intro (fun h => ?_) (fun h => br_intro (fun h2 => ?_) (fun h2 => ?_))
  · have h := of_decide_eq_true h
    rw [bad (by omega)]
    exact And.intro rfl rfl
  · have h2 := of_decide_eq_true h2
    rw [bad (by omega)]
    exact And.intro rfl rfl
  have h := of_decide_eq_false h
  have h2 := of_decide_eq_false h2
  obtain ⟨v, rfl⟩ := Int.eq_ofNat_of_zero_le (show 0 ≤ w by omega)
  refine loop_on (fun k : Nat => v ≤ k ∧ k ≤ 128 ∧ ∀ i, v ≤ i → i < k → n.testBit i = false) (normS v n) (fun k => 128 - k) v ⟨by omega, by omega, fun i h1 h2 => by omega⟩ (weak_of ⟨rfl, rfl, trivial⟩ rfl) (fun k hk => ?_)
  obtain ⟨hk1, hk2, hz⟩ := hk
  refine br_intro (fun h3 => ?_) (fun h3 => ?_)
  · have h3 := of_decide_eq_true h3
    refine CallS.snap (bit_runs n k hn (by omega)) rfl rfl ?_
    refine br_intro (fun hb => ?_) (fun hb => ?_)
    · have : decide (isN (v : Int) n) = false := decide_eq_false fun hh => by
        have := Nat.testBit_lt_two_pow (Nat.lt_of_lt_of_le hh.2 (Nat.pow_le_pow_right (show 0 < 2 by omega) (show (v : Int).toNat ≤ k by omega)))
        rw [hb] at this; cases this
      rw [this]
      exact And.intro rfl rfl
    · refine ⟨⟨k + 1, by omega, by omega, fun i h1 h2 => ?_⟩, weak_of ⟨rfl, congrArg (fun x => AV.t (.int .i64 x)) (i64_in _ (by omega)), trivial⟩ rfl, by show 128 - (k + 1) < 128 - k; omega⟩
      by_cases e : i = k
      · subst e; exact hb
      · exact hz i h1 (by omega)
  · have h3 := of_decide_eq_false h3
    have hk : k = 128 := by omega
    subst hk
    have : decide (isN (v : Int) n) = true := decide_eq_true ⟨by omega, by
      rw [Int.toNat_natCast]
      apply Nat.lt_pow_two_of_testBit
      intro i hi
      by_cases hi2 : i < 128
      · exact hz i hi hi2
      · exact Nat.testBit_lt_two_pow (Nat.lt_of_lt_of_le hn (Nat.pow_le_pow_right (by omega) (by omega)))⟩
    rw [this]
    exact And.intro rfl rfl

theorem btOf_bits (x w : Nat) (hw : 1 ≤ w) (hw2 : w ≤ 128) : btOf (bitsL x w) = bt w (x % 2 ^ w) := by
  rw [btOf, bitsL_len, if_pos ⟨hw, hw2⟩, ofL_bits]

/-- A list of bits is handed to To. -/
theorem to_bits {L : List T} (x w : Nat) (h : L = LB (bitsL x w)) (hw : 1 ≤ w) (hw2 : w ≤ 128) : Runs Try.prog 54 [.vec 1 L] (.t (bt w (x % 2 ^ w))) := by
  rw [← btOf_bits x w hw hw2]
  exact rto_runs h (by rw [bitsL_len]; omega)

theorem cut_to {L : List T} (x w v : Nat) (h : L = LB (bitsL x w)) (hx : x < 2 ^ w) (hw : w ≤ 1000) (hv : v ≤ 1000) : Runs Try.prog 71 [.vec 1 L, .int .i64 (v : Int), .bool false] (oB (bitsL x v)) := by
  have := cut_runs (.vec _ L h) (by rw [bitsL_len]; exact hw) (v : Int) (by omega) (by omega) false
  rw [Int.toNat_natCast, cut_bits x w v hx] at this
  exact this

def rmakeT (w : Int) (n : Nat) : T := if 1 ≤ w ∧ w ≤ 128 then bt w (n % 2 ^ w.toNat) else bt 0 0

theorem rmake_runs (w : Int) (n : Nat) (hn : n < 2 ^ 128) : Runs Try.prog 35 [.int .i64 w, .int .u64 ((n / 18446744073709551616 : Nat) : Int), .int .u64 ((n % 18446744073709551616 : Nat) : Int)] (.t (rmakeT w n)) := by
  refine Runs.of_call ?_ rfl
  refine CallS.of_fn tab_ok reg_ok Try.func35 rfl rfl ?_
  refine br_intro (fun h => ?_) (fun h => br_intro (fun h2 => ?_) (fun h2 => ?_))
  · have h := of_decide_eq_true h
    rw [rmakeT, if_neg (by omega)]
    exact And.intro rfl rfl
  · have h2 := of_decide_eq_true h2
    rw [rmakeT, if_neg (by omega)]
    exact And.intro rfl rfl
  have h := of_decide_eq_false h
  have h2 := of_decide_eq_false h2
  obtain ⟨v, rfl⟩ := Int.eq_ofNat_of_zero_le (show 0 ≤ w by omega)
  rw [rmakeT, if_pos (by omega), Int.toNat_natCast]
  refine CallS.snap (rof_runs 128 n hn (by omega) (by omega)) rfl (oB_flat _) ?_
  refine CallS.snap (cut_to n 128 v (LB_all (bitsL n 128)) hn (by omega) (by omega)) rfl (oB_flat _) ?_
  refine CallS.snap (to_bits n v (LB_all (bitsL n v)) (by omega) (by omega)) rfl rfl ?_
  exact And.intro rfl rfl

/-- The lowest bits of a signed number. -/
def sx (n : Int) (w : Nat) : Nat := (n % ((2 ^ w : Nat) : Int)).toNat

theorem cutL_get (l : List Bool) (w i : Nat) (fill : Bool) : (cutL l w fill)[i]? = if i < w then some ((l[i]?).getD fill) else none := by
  simp only [cutL, List.getElem?_map]
  by_cases h : i < w
  · rw [if_pos h, List.getElem?_range h]; rfl
  · rw [if_neg h, List.getElem?_eq_none (by simp; omega)]; rfl

/-- Filled up with ones. -/
theorem cut_ones (x w v : Nat) : cutL (bitsL x w) v true = bitsL (x % 2 ^ w + 2 ^ w * (2 ^ v - 1)) v := by
  apply List.ext_getElem?
  intro i
  rw [cutL_get, bitsL_get, bitsL_get]
  by_cases h : i < v
  · rw [if_pos h, if_pos h]
    have hlt := Nat.mod_lt x (Nat.pow_pos (n := w) (show 0 < 2 by omega))
    by_cases h2 : i < w
    · rw [if_pos h2]
      have : (x % 2 ^ w + 2 ^ w * (2 ^ v - 1)) % 2 ^ w = x % 2 ^ w := by rw [Nat.add_mul_mod_self_left, Nat.mod_mod]
      have h3 : ((x % 2 ^ w + 2 ^ w * (2 ^ v - 1)) % 2 ^ w).testBit i = (x % 2 ^ w).testBit i := by rw [this]
      rw [Nat.testBit_mod_two_pow, Nat.testBit_mod_two_pow] at h3
      simp [h2] at h3
      rw [h3]; rfl
    · rw [if_neg h2]
      have e : x % 2 ^ w + 2 ^ w * (2 ^ v - 1) = 2 ^ w * (2 ^ v - 1) + x % 2 ^ w := Nat.add_comm _ _
      rw [e, Nat.testBit_two_pow_mul_add _ hlt, if_neg h2, Nat.testBit_two_pow_sub_one]
      simp; omega
  · rw [if_neg h, if_neg h]

end Go.Proofs.Ytkjhkcpgkccocaa
