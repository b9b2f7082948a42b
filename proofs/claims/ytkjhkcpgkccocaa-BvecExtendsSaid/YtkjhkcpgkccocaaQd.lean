/-
  The laws' walks: a wider width; joined of two halves.
-/
import Derived.Test.YtkjhkcpgkccocaaQa
namespace Go.Proofs.Ytkjhkcpgkccocaa
open Go.IntWalk
set_option maxRecDepth 100000
set_option linter.unusedVariables false
set_option linter.unusedSimpArgs false

/-- The number in a wider width. -/
def wider (w v n : Nat) : Nat := sgn (w : Int) n % 2 ^ v

theorem wider_eq {w v n : Nat} (hw : 1 ≤ w) (hv : w ≤ v) (hv2 : v ≤ 128) (h : n < 2 ^ w) : wider w v n = if n.testBit (w - 1) then n + (2 ^ v - 2 ^ w) else n := by
  have hp : 2 ^ w ≤ 2 ^ v := Nat.pow_le_pow_right (by omega) hv
  have hP := pow_le128 hv2
  rw [wider, sgn_nat hw (by omega) h]
  split
  · have : (n + (2 ^ 128 - 2 ^ w)) % 2 ^ v = (n + (2 ^ v - 2 ^ w)) % 2 ^ v := by
      obtain ⟨Q, hQ⟩ := p128i hv2
      refine mod_of_int (z := (n : Int) - ((2 ^ w : Nat) : Int)) Q 1 ?_ ?_
      · rw [hQ]; omega
      · omega
    rw [this, Nat.mod_eq_of_lt (by omega)]
  · exact Nat.mod_eq_of_lt (by omega)

theorem wider_sval {w v n : Nat} (hw : 1 ≤ w) (hv : w ≤ v) (hv2 : v ≤ 128) (h : n < 2 ^ w) : sval (v : Int) (wider w v n) = sval (w : Int) n := by
  have hp : 2 ^ w ≤ 2 ^ v := Nat.pow_le_pow_right (by omega) hv
  have h1 := pow_half_nat hw
  have h2 := pow_half_nat (w := v) (by omega)
  have h3 : 2 ^ (w - 1) ≤ 2 ^ (v - 1) := Nat.pow_le_pow_right (by omega) (by omega)
  rw [wider_eq hw hv hv2 h, top_bit hw (by omega) h, sval_nat, sval_nat]
  simp only [decide_eq_true_eq]
  by_cases hc : 2 ^ (w - 1) ≤ n
  · rw [if_pos hc, if_pos hc, if_pos (by omega)]; omega
  · rw [if_neg hc, if_neg hc]
    by_cases he : v = w
    · subst he; rw [if_neg hc]
    · have : 2 ^ w ≤ 2 ^ (v - 1) := Nat.pow_le_pow_right (by omega) (by omega)
      rw [if_neg (by omega)]

theorem wider_mod {w v n : Nat} (hw : 1 ≤ w) (hv : w ≤ v) (hv2 : v ≤ 128) (h : n < 2 ^ w) : wider w v n % 2 ^ w = n := by
  rw [wider_eq hw hv hv2 h]
  split
  · obtain ⟨k, rfl⟩ : ∃ k, v = w + k := ⟨v - w, by omega⟩
    have e : 2 ^ (w + k) - 2 ^ w = 2 ^ w * (2 ^ k - 1) := by rw [Nat.mul_sub, ← Nat.pow_add, Nat.mul_one]
    rw [e, Nat.add_mul_mod_self_left, Nat.mod_eq_of_lt h]
  · exact Nat.mod_eq_of_lt h

theorem bneSelf (w : Int) (v : Nat) : (!(w == w && (((v / 18446744073709551616 : Nat) : Int) == ((v / 18446744073709551616 : Nat) : Int) && (((v % 18446744073709551616 : Nat) : Int) == ((v % 18446744073709551616 : Nat) : Int) && true)))) = false := by simp

theorem intR_of_sval {w v n m : Nat} (h : isN w n) (h2 : isN v m) (e : sval (v : Int) m = sval (w : Int) n) : intR (v : Int) m = intR (w : Int) n := by
  unfold intR
  rw [e]
  by_cases hc : -9223372036854775808 ≤ sval (w : Int) n ∧ sval (w : Int) n < 9223372036854775808
  · rw [if_pos ⟨h2, hc⟩, if_pos ⟨h, hc⟩]
  · rw [if_neg (fun hh => hc hh.2), if_neg (fun hh => hc hh.2)]

theorem extends_runs (w : Int) (n : Nat) (v c : Int) (hn : n < 2 ^ 128) : Runs Try.prog 12 [bt w n, .int .i64 v, .int .i64 c] (.t (.bool true)) := by
  refine Runs.of_call ?_ rfl
  refine CallS.of_fn tab_ok reg_ok Try.func12 rfl rfl ?_
  refine CallS.pure alive_runs rfl ?_
  refine CallS.snap (normal_runs w n hn) rfl rfl ?_
  refine br_intro (fun _ => And.intro rfl rfl) (fun h1 => ?_)
  have h1 : isN w n := by simpa using h1
  refine br_intro (fun _ => And.intro rfl rfl) (fun h2 => ?_)
  have h2 := of_decide_eq_false h2
  refine br_intro (fun _ => And.intro rfl rfl) (fun h3 => ?_)
  have h3 := of_decide_eq_false h3
  have hw := h1.1
  obtain ⟨w, rfl⟩ := Int.eq_ofNat_of_zero_le (show 0 ≤ w by omega)
  obtain ⟨v, rfl⟩ := Int.eq_ofNat_of_zero_le (show 0 ≤ v by omega)
  have hlt : n < 2 ^ w := h1.2
  have hw1 : 1 ≤ w := by omega
  have hv : w ≤ v := by omega
  have hv2 : v ≤ 128 := by omega
  have hS : wider w v n < 2 ^ v := Nat.mod_lt _ (Nat.pow_pos (by omega))
  have hP := pow_le128 hv2
  have hNS : isN (v : Int) (wider w v n) := ⟨by omega, hS⟩
  have c1 := sext_runs w n v hn
  have e1 : (if isN (w : Int) n then makeT (v : Int) (sgn w n) else bt 0 0) = bt v (wider w v n) := by
    rw [if_pos h1, makeT, if_pos (by omega), msk hv2]; rfl
  rw [e1] at c1
  have c2 := int_runs w n hn
  have c3 := int_runs v (wider w v n) (by omega)
  rw [intR_of_sval h1 hNS (wider_sval hw1 hv hv2 hlt)] at c3
  obtain ⟨i, b, e⟩ := intR_tup w n
  rw [e] at c2 c3
  have ew : IntKind.i64.wrap ((w : Int) - 1) = (w : Int) - 1 := i64_in _ (by omega)
  have c4 := extract_runs v (wider w v n) (w - 1) 0 (by omega)
  have e4 : extT (v : Int) (wider w v n) ((w : Int) - 1) 0 = bt w n := by
    rw [extT, if_pos ⟨hNS, by omega, by omega, by omega⟩, show (w : Int) - 1 - 0 + 1 = (w : Int) by omega, msk (by omega), show (0 : Int).toNat = 0 from rfl, Nat.pow_zero, Nat.div_one, wider_mod hw1 hv hv2 hlt]
  rw [e4, ← ew] at c4
  have c5 := zext_runs v (wider w v n) w (by omega)
  have e5 : (if isN (v : Int) (wider w v n) then makeT (w : Int) (wider w v n) else bt 0 0) = bt w n := by
    rw [if_pos hNS, makeT, if_pos (by omega), msk (by omega), wider_mod hw1 hv hv2 hlt]
  rw [e5] at c5
  refine CallS.snap c1 rfl rfl ?_
  refine CallS.snap c2 rfl ⟨rfl, rfl, trivial⟩ ?_
  refine CallS.snap c3 rfl ⟨rfl, rfl, trivial⟩ ?_
  refine draw_intro [(0, false), (1, false), (2, false), (3, false), (4, false), (5, false), (6, false), (7, false), (8, false), (9, false), (10, false), (11, false), (12, false), (13, false), (14, false), (15, false), (16, false), (17, false), (18, false), (20, false), (19, false), (21, false), (22, false), (23, false), (24, false), (25, false), (26, false), (28, false), (27, false), (29, false), (30, false)] (by decide +kernel) ?_
  refine br_intro (fun h => absurd h (by simp)) (fun _ => ?_)
  refine br_intro (fun h => absurd h (by simp)) (fun _ => ?_)
  refine br_intro (fun h => absurd h (by simp)) (fun _ => ?_)
  refine CallS.snap c4 rfl rfl (And.intro (LeX.append _ _ _) ?_)
  refine And.intro eq25 (opt_intro (a := true) (congrArg some (eqSelf _ _)) ?_)
  refine CallS.snap c5 rfl rfl (And.intro (LeX.append _ _ _) ?_)
  refine And.intro eq25 (opt_intro (a := true) (congrArg some (eqSelf _ _)) ?_)
  refine br_intro (fun _ => And.intro rfl rfl) (fun h4 => ?_)
  have h4 := of_decide_eq_false h4
  refine br_intro (fun _ => And.intro rfl rfl) (fun h5 => ?_)
  have h5 := of_decide_eq_false h5
  obtain ⟨c, rfl⟩ := Int.eq_ofNat_of_zero_le (show 0 ≤ c by omega)
  have hc1 : 1 ≤ c := by omega
  have hc2 : c < w := by omega
  have x1 := extract_runs w n (w - 1) c hn
  have d1 : n / 2 ^ c < 2 ^ (w - c) := by
    rw [Nat.div_lt_iff_lt_mul (Nat.pow_pos (by omega)), ← Nat.pow_add, show w - c + c = w by omega]; exact hlt
  have e1 : extT (w : Int) n ((w : Int) - 1) c = bt ((w - c : Nat) : Int) (n / 2 ^ c) := by
    rw [extT, if_pos ⟨h1, by omega, by omega, by omega⟩, show (w : Int) - 1 - c + 1 = ((w - c : Nat) : Int) by omega, msk (by omega), Int.toNat_natCast, Nat.mod_eq_of_lt d1]
  rw [e1, ← ew] at x1
  have ec : IntKind.i64.wrap ((c : Int) - 1) = (c : Int) - 1 := i64_in _ (by omega)
  have x2 := extract_runs w n (c - 1) 0 hn
  have e2 : extT (w : Int) n ((c : Int) - 1) 0 = bt c (n % 2 ^ c) := by
    rw [extT, if_pos ⟨h1, by omega, by omega, by omega⟩, show (c : Int) - 1 - 0 + 1 = (c : Int) by omega, msk (by omega), show (0 : Int).toNat = 0 from rfl, Nat.pow_zero, Nat.div_one]
  rw [e2, ← ec] at x2
  have m2 : n % 2 ^ c < 2 ^ c := Nat.mod_lt _ (Nat.pow_pos (by omega))
  have pc := pow_le128 (w := c) (by omega)
  have x3 := bin_runs 17 ((w - c : Nat) : Int) (n / 2 ^ c) c (n % 2 ^ c) (div_lt128 _ hn) (by omega)
  have e3 : binT 17 ((w - c : Nat) : Int) (n / 2 ^ c) c (n % 2 ^ c) = bt w n := by
    rw [bin_law, rbinT, if_pos ⟨⟨by omega, by rw [Int.toNat_natCast]; exact d1⟩, by omega, m2⟩, if_neg (by omega), if_pos rfl, if_pos (by omega), Int.toNat_natCast, Int.toNat_natCast, show c + (w - c) = w by omega, Nat.mod_mod, Nat.mod_add_div, Nat.mod_eq_of_lt hlt]
  rw [e3] at x3
  refine draw_intro [(0, false), (1, false), (2, false), (3, false), (4, false), (6, false), (7, false), (8, false), (11, false), (5, false), (9, false), (10, false), (12, false), (13, true)] (by decide +kernel) ?_
  refine CallS.snap x1 rfl rfl (And.intro (LeX.append _ _ _) ?_)
  refine CallS.snap x2 rfl rfl (And.intro (LeX.append _ _ _) ?_)
  refine CallS.snap x3 rfl rfl (And.intro (LeX.append _ _ _) ?_)
  refine And.intro eq25 ?_
  exact And.intro (congrArg (fun b => some (T.bool b)) (eqSelf _ _)) rfl

end Go.Proofs.Ytkjhkcpgkccocaa
