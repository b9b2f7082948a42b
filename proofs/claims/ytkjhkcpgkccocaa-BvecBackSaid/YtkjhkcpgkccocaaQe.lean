/-
  The laws' walks: what was put in is taken out.
-/
import Derived.Test.YtkjhkcpgkccocaaQa
namespace Go.Proofs.Ytkjhkcpgkccocaa
open Go.IntWalk
set_option maxRecDepth 100000
set_option linter.unusedVariables false
set_option linter.unusedSimpArgs false

def insN (w n lo w2 n2 : Nat) : Nat := ofL (insB w n lo w2 n2)

theorem insN_lt (w n lo w2 n2 : Nat) : insN w n lo w2 n2 < 2 ^ w := by
  have := ofL_lt (insB w n lo w2 n2)
  rw [insB_len] at this
  exact this

theorem insN_bit (w n lo w2 n2 i : Nat) : (insN w n lo w2 n2).testBit i = if i < w then (if lo ≤ i ∧ i < lo + w2 then n2.testBit (i - lo) else n.testBit i) else false := by
  rw [insN, ofL_bit, insB_get]
  split <;> rfl

theorem insN_mid {w n lo w2 n2 : Nat} (h2 : n2 < 2 ^ w2) (hl : lo + w2 ≤ w) : insN w n lo w2 n2 / 2 ^ lo % 2 ^ w2 = n2 := by
  apply Nat.eq_of_testBit_eq
  intro i
  rw [Nat.testBit_mod_two_pow, tb_div, insN_bit]
  by_cases h : i < w2
  · rw [if_pos (by omega), if_pos (by omega), decide_eq_true h, Nat.add_sub_cancel_left, Bool.true_and]
  · rw [decide_eq_false h, Bool.false_and]
    exact (Nat.testBit_lt_two_pow (Nat.lt_of_lt_of_le h2 (Nat.pow_le_pow_right (by omega) (by omega)))).symm

theorem insN_low {w n lo w2 n2 : Nat} (hl : lo + w2 ≤ w) : insN w n lo w2 n2 % 2 ^ lo = n % 2 ^ lo := by
  apply Nat.eq_of_testBit_eq
  intro i
  rw [Nat.testBit_mod_two_pow, Nat.testBit_mod_two_pow, insN_bit]
  by_cases h : i < lo
  · rw [if_pos (by omega), if_neg (by omega)]
  · rw [decide_eq_false h, Bool.false_and, Bool.false_and]

theorem insN_high {w n lo w2 n2 : Nat} (h : n < 2 ^ w) (hl : lo + w2 ≤ w) : insN w n lo w2 n2 / 2 ^ (lo + w2) = n / 2 ^ (lo + w2) := by
  apply Nat.eq_of_testBit_eq
  intro i
  rw [tb_div, tb_div, insN_bit]
  by_cases hi : lo + w2 + i < w
  · rw [if_pos hi, if_neg (by omega)]
  · rw [if_neg hi]
    exact (Nat.testBit_lt_two_pow (Nat.lt_of_lt_of_le h (Nat.pow_le_pow_right (by omega) (by omega)))).symm

theorem ext_at {w n : Nat} (h : isN w n) {hi lo : Int} (k l : Nat) (hk : hi - lo + 1 = k) (hl : lo = l) (hk1 : 1 ≤ k) (hh : hi < w) {v : Nat} (hv : n / 2 ^ l % 2 ^ k = v) : Runs Try.prog 18 [bt w n, .int .i64 (IntKind.i64.wrap hi), .int .i64 (IntKind.i64.wrap lo)] (.t (bt k v)) := by
  have hw := h.1
  have := extract_runs w n hi lo (isN_lt h)
  rw [extT, if_pos ⟨h, by omega, by omega, hh⟩, hk, msk (by omega), hl, Int.toNat_natCast, hv, ← hl] at this
  rw [i64_in _ (by omega), i64_in _ (by omega)]
  exact this

theorem back_runs (w : Int) (n : Nat) (w2 : Int) (n2 : Nat) (lo : Int) (hn : n < 2 ^ 128) (hn2 : n2 < 2 ^ 128) : Runs Try.prog 7 [bt w n, bt w2 n2, .int .i64 lo] (.t (.bool true)) := by
  refine Runs.of_call ?_ rfl
  refine CallS.of_fn tab_ok reg_ok Try.func7 rfl rfl ?_
  have c1 := insert_runs w n lo w2 n2 hn hn2
  refine CallS.pure alive_runs rfl ?_
  by_cases g : isN w n ∧ isN w2 n2 ∧ 0 ≤ lo ∧ lo ≤ w - w2
  · obtain ⟨h1, h2, h3, h4⟩ := id g
    have hw := h1.1
    have hw2 := h2.1
    rw [ins_law, rinsT, if_pos g] at c1
    obtain ⟨w, rfl⟩ := Int.eq_ofNat_of_zero_le (show 0 ≤ w by omega)
    obtain ⟨w2, rfl⟩ := Int.eq_ofNat_of_zero_le (show 0 ≤ w2 by omega)
    obtain ⟨lo, rfl⟩ := Int.eq_ofNat_of_zero_le (show 0 ≤ lo by omega)
    rw [Int.toNat_natCast, Int.toNat_natCast, Int.toNat_natCast] at c1
    have hlt : n < 2 ^ w := h1.2
    have hlt2 : n2 < 2 ^ w2 := h2.2
    have hl : lo + w2 ≤ w := by omega
    have hC : isN w (insN w n lo w2 n2) := ⟨by omega, insN_lt _ _ _ _ _⟩
    have e1 : IntKind.i64.wrap (IntKind.i64.wrap ((lo : Int) + w2) - 1) = (lo : Int) + w2 - 1 := by rw [i64_in ((lo : Int) + w2) (by omega), i64_in _ (by omega)]
    have e2 : IntKind.i64.wrap ((lo : Int) + w2) = (lo : Int) + w2 := i64_in _ (by omega)
    have e3 : IntKind.i64.wrap ((w : Int) - 1) = (w : Int) - 1 := i64_in _ (by omega)
    have x1 : Runs Try.prog 18 [bt w (insN w n lo w2 n2), .int .i64 (IntKind.i64.wrap (IntKind.i64.wrap ((lo : Int) + w2) - 1)), .int .i64 (lo : Int)] (.t (bt w2 n2)) := by
      have := ext_at hC (hi := (lo : Int) + w2 - 1) (lo := lo) w2 lo (by omega) rfl (by omega) (by omega) (insN_mid hlt2 hl)
      rw [i64_in (lo : Int) (by omega), i64_in ((lo : Int) + w2 - 1) (by omega), ← e1] at this
      exact this
    refine CallS.snap c1 rfl rfl ?_
    refine br_intro (fun h => absurd (eq_of_beq h) (by omega)) (fun _ => ?_)
    refine draw_intro [(0, false), (1, false), (2, false), (3, false), (4, false), (5, false), (6, false), (7, false), (8, false), (9, false), (10, false), (11, false), (12, false), (14, false), (13, false), (15, false), (16, false)] (by decide +kernel) ?_
    refine br_intro (fun h => absurd h (by simp)) (fun _ => ?_)
    refine CallS.snap x1 rfl rfl (And.intro (LeX.append _ _ _) ?_)
    refine And.intro eq25 (opt_intro (a := true) (congrArg some (eqSelf _ _)) ?_)
    refine draw_intro [(0, false), (1, false), (2, false), (3, false), (4, false), (5, false), (7, false), (8, false), (9, false), (6, false), (10, true), (11, false), (12, false), (13, false), (14, false), (15, false), (16, false), (17, false), (18, false), (19, false), (20, false), (21, false), (22, false), (23, false), (24, false), (25, false), (26, false), (27, false), (28, false), (29, false), (31, false), (32, false), (33, false), (34, false), (35, false), (36, false), (37, false), (38, false), (30, false), (39, true), (40, false), (41, false), (42, false), (43, true)] (by decide +kernel) ?_
    have x2 : ∀ m, isN w m → 1 ≤ lo → m % 2 ^ lo = n % 2 ^ lo → Runs Try.prog 18 [bt w m, .int .i64 (IntKind.i64.wrap ((lo : Int) - 1)), .int .i64 0] (.t (bt lo (n % 2 ^ lo))) := fun m hm hlo hv =>
      ext_at hm (hi := (lo : Int) - 1) (lo := 0) lo 0 (by omega) rfl (by omega) (by omega) (by rw [Nat.pow_zero, Nat.div_one]; exact hv)
    have x3 : ∀ m, isN w m → ¬ lo + w2 = w → m / 2 ^ (lo + w2) = n / 2 ^ (lo + w2) → Runs Try.prog 18 [bt w m, .int .i64 (IntKind.i64.wrap ((w : Int) - 1)), .int .i64 (IntKind.i64.wrap ((lo : Int) + w2))] (.t (bt ((w - (lo + w2) : Nat) : Int) (n / 2 ^ (lo + w2) % 2 ^ (w - (lo + w2))))) := fun m hm hlo hv =>
      ext_at hm (hi := (w : Int) - 1) (lo := (lo : Int) + w2) (w - (lo + w2)) (lo + w2) (by omega) (by omega) (by omega) (by omega) (by rw [hv])
    refine br_intro (fun h5 => ?_) (fun h5 => ?_)
    · refine And.intro (LeX.refl _ _) ?_
      refine br_intro (fun h6 => ?_) (fun h6 => ?_)
      · refine And.intro (LeX.refl _ _) ?_
        exact And.intro rfl rfl
      · have h6 := ne_of_beq_false h6
        rw [e2] at h6
        refine CallS.snap (x3 _ hC (by omega) (insN_high hlt hl)) rfl rfl (And.intro (LeX.append _ _ _) ?_)
        refine CallS.snap (x3 _ h1 (by omega) rfl) rfl rfl ?_
        refine And.intro eq25 (opt_intro (a := true) (congrArg some (eqSelf _ _)) ?_)
        exact And.intro rfl rfl
    · have h5 := ne_of_beq_false h5
      refine CallS.snap (x2 _ hC (by omega) (insN_low hl)) rfl rfl (And.intro (LeX.append _ _ _) ?_)
      refine CallS.snap (x2 _ h1 (by omega) rfl) rfl rfl ?_
      refine And.intro eq25 (opt_intro (a := true) (congrArg some (eqSelf _ _)) ?_)
      refine br_intro (fun h6 => ?_) (fun h6 => ?_)
      · refine And.intro (LeX.refl _ _) ?_
        exact And.intro rfl rfl
      · have h6 := ne_of_beq_false h6
        rw [e2] at h6
        refine CallS.snap (x3 _ hC (by omega) (insN_high hlt hl)) rfl rfl (And.intro (LeX.append _ _ _) ?_)
        refine CallS.snap (x3 _ h1 (by omega) rfl) rfl rfl ?_
        refine And.intro eq25 (opt_intro (a := true) (congrArg some (eqSelf _ _)) ?_)
        exact And.intro rfl rfl
  · rw [insT, if_neg g] at c1
    refine CallS.snap c1 rfl rfl ?_
    refine CallS.snap (normal_runs w n hn) rfl rfl ?_
    refine br_intro (fun _ => And.intro rfl rfl) (fun h1 => ?_)
    have h1 : isN w n := by simpa using h1
    refine CallS.snap (normal_runs w2 n2 hn2) rfl rfl ?_
    refine br_intro (fun _ => And.intro rfl rfl) (fun h2 => ?_)
    have h2 : isN w2 n2 := by simpa using h2
    refine br_intro (fun _ => And.intro rfl rfl) (fun h3 => ?_)
    have h3 := of_decide_eq_false h3
    have hw := h1.1
    have hw2 := h2.1
    have e : IntKind.i64.wrap (w - w2) = w - w2 := i64_in _ (by omega)
    refine And.intro (congrArg (fun b => some (T.bool b)) (decide_eq_true ?_)) rfl
    rw [e]
    have : ¬ lo ≤ w - w2 := fun h => g ⟨h1, h2, by omega, h⟩
    omega

end Go.Proofs.Ytkjhkcpgkccocaa
