/-
  Numbers of 128 bits: parts, widths, signs, shifts.
-/
import Derived.Test.YtkjhkcpgkccocaaBv5
namespace Go.Proofs.Ytkjhkcpgkccocaa
open Go.IntWalk
set_option maxRecDepth 100000
set_option linter.unusedVariables false
set_option linter.unusedSimpArgs false

theorem bt_flat (w : Int) (n : Nat) : Flat (.t (bt w n)) := rfl

def extT (w : Int) (n : Nat) (hi lo : Int) : T := if isN w n ∧ 0 ≤ lo ∧ lo ≤ hi ∧ hi < w then bt (hi - lo + 1) (n / 2 ^ lo.toNat &&& maskN (hi - lo + 1)) else bt 0 0

theorem extT_flat (w : Int) (n : Nat) (hi lo : Int) : Flat (.t (extT w n hi lo)) := by unfold extT; split <;> rfl

theorem extract_runs (w : Int) (n : Nat) (hi lo : Int) (hn : n < 2 ^ 128) : Runs Try.prog 18 [bt w n, .int .i64 hi, .int .i64 lo] (.t (extT w n hi lo)) := by
  refine Runs.of_call ?_ rfl
  refine CallS.of_fn tab_ok reg_ok Try.func18 rfl rfl ?_
  refine CallS.snap (normal_runs w n hn) rfl rfl ?_
  have bad : ¬ (isN w n ∧ 0 ≤ lo ∧ lo ≤ hi ∧ hi < w) → extT w n hi lo = bt 0 0 := fun h => by rw [extT, if_neg h]
  refine br_intro (fun h => ?_) (fun h => ?_)
  · have h : ¬ isN w n := by simpa using h
    rw [bad (fun hh => h hh.1)]
    exact And.intro rfl rfl
  have h : isN w n := by simpa using h
  refine br_intro (fun h2 => ?_) (fun h2 => ?_)
  · have h2 := of_decide_eq_true h2
    rw [bad (fun hh => by omega)]
    exact And.intro rfl rfl
  have h2 := of_decide_eq_false h2
  refine br_intro (fun h3 => ?_) (fun h3 => ?_)
  · have h3 := of_decide_eq_true h3
    rw [bad (fun hh => by omega)]
    exact And.intro rfl rfl
  have h3 := of_decide_eq_false h3
  refine br_intro (fun h4 => ?_) (fun h4 => ?_)
  · have h4 := of_decide_eq_true h4
    rw [bad (fun hh => by omega)]
    exact And.intro rfl rfl
  have h4 := of_decide_eq_false h4
  have hw := h.1
  have e1 : IntKind.i64.wrap (IntKind.i64.wrap (hi - lo) + 1) = hi - lo + 1 := by rw [i64_in (hi - lo) (by omega), i64_in _ (by omega)]
  obtain ⟨k, rfl⟩ := Int.eq_ofNat_of_zero_le (show 0 ≤ lo by omega)
  have hk : k < 128 := by omega
  have e2 : IntKind.u64.wrap (k : Int) = (k : Int) := u64_nat (by omega)
  rw [extT, if_pos ⟨h, by omega, by omega, by omega⟩, Int.toNat_natCast]
  refine CallS.snap (of_runs w n) rfl rfl ?_
  have hd := down_runs n k hn (by omega)
  rw [← e2] at hd
  refine CallS.snap hd rfl rfl ?_
  have ht := to_runs (hi - (k : Int) + 1) (by omega) (by omega) (n / 2 ^ k) (Nat.lt_of_le_of_lt (Nat.div_le_self _ _) hn)
  rw [← e1] at ht ⊢
  refine CallS.snap ht rfl rfl ?_
  exact And.intro rfl rfl

def all1 : Nat := 340282366920938463463374607431768211455

theorem all1_lt (n : Nat) : all1 - n < 2 ^ 128 := by unfold all1; omega

theorem or_lt {a b : Nat} (ha : a < 2 ^ 128) (hb : b < 2 ^ 128) : a ||| b < 2 ^ 128 := Nat.or_lt_two_pow ha hb
theorem and_lt {a b : Nat} (ha : a < 2 ^ 128) : a &&& b < 2 ^ 128 := Nat.lt_of_le_of_lt Nat.and_le_left ha
theorem mod_lt128 (a : Nat) : a % 2 ^ 128 < 2 ^ 128 := Nat.mod_lt _ (by omega)
theorem div_lt128 {a : Nat} (b : Nat) (ha : a < 2 ^ 128) : a / b < 2 ^ 128 := Nat.lt_of_le_of_lt (Nat.div_le_self _ _) ha

def insT (w : Int) (n : Nat) (lo : Int) (w2 : Int) (n2 : Nat) : T :=
  if isN w n ∧ isN w2 n2 ∧ 0 ≤ lo ∧ lo ≤ w - w2 then bt w ((n &&& (all1 - maskN w2 * 2 ^ lo.toNat % 2 ^ 128) ||| n2 * 2 ^ lo.toNat % 2 ^ 128) &&& maskN w) else bt 0 0

theorem insert_runs (w : Int) (n : Nat) (lo : Int) (w2 : Int) (n2 : Nat) (hn : n < 2 ^ 128) (hn2 : n2 < 2 ^ 128) : Runs Try.prog 20 [bt w n, .int .i64 lo, bt w2 n2] (.t (insT w n lo w2 n2)) := by
  refine Runs.of_call ?_ rfl
  refine CallS.of_fn tab_ok reg_ok Try.func20 rfl rfl ?_
  refine CallS.snap (normal_runs w n hn) rfl rfl ?_
  have bad : ¬ (isN w n ∧ isN w2 n2 ∧ 0 ≤ lo ∧ lo ≤ w - w2) → insT w n lo w2 n2 = bt 0 0 := fun h => by rw [insT, if_neg h]
  refine br_intro (fun h => ?_) (fun h => ?_)
  · have h : ¬ isN w n := by simpa using h
    rw [bad (fun hh => h hh.1)]
    exact And.intro rfl rfl
  have h : isN w n := by simpa using h
  refine CallS.snap (normal_runs w2 n2 hn2) rfl rfl ?_
  refine br_intro (fun h1 => ?_) (fun h1 => ?_)
  · have h1 : ¬ isN w2 n2 := by simpa using h1
    rw [bad (fun hh => h1 hh.2.1)]
    exact And.intro rfl rfl
  have h1 : isN w2 n2 := by simpa using h1
  have hw := h.1
  have hw2 := h1.1
  refine br_intro (fun h2 => ?_) (fun h2 => ?_)
  · have h2 := of_decide_eq_true h2
    rw [bad (fun hh => by omega)]
    exact And.intro rfl rfl
  have h2 := of_decide_eq_false h2
  refine br_intro (fun h3 => ?_) (fun h3 => ?_)
  · have h3 := of_decide_eq_true h3
    rw [i64_in _ (by omega)] at h3
    rw [bad (fun hh => by omega)]
    exact And.intro rfl rfl
  have h3 := of_decide_eq_false h3
  rw [i64_in _ (by omega)] at h3
  obtain ⟨k, rfl⟩ := Int.eq_ofNat_of_zero_le (show 0 ≤ lo by omega)
  have hk : k < 128 := by omega
  have e2 : IntKind.u64.wrap (k : Int) = (k : Int) := u64_nat (by omega)
  rw [insT, if_pos ⟨h, h1, by omega, by omega⟩, Int.toNat_natCast]
  refine CallS.snap (mask_runs w2 (by omega) (by omega)) rfl rfl ?_
  have hu := up_runs (maskN w2) k (maskN_lt w2) (by omega)
  rw [← e2] at hu
  refine CallS.snap hu rfl rfl ?_
  refine CallS.snap (not_runs _ (mod_lt128 _)) rfl rfl ?_
  refine draw_intro [(0, false), (1, false), (2, false), (4, false), (6, false), (8, false), (9, false), (3, false), (5, false), (7, false), (10, false), (11, false), (12, true), (13, true)] (by decide +kernel) ?_
  refine CallS.snap (of_runs w n) rfl rfl (And.intro (LeX.append _ _ _) ?_)
  refine CallS.snap (and_runs n (all1 - maskN w2 * 2 ^ k % 2 ^ 128) hn (all1_lt _)) rfl rfl (And.intro (LeX.append _ _ _) ?_)
  refine CallS.snap (of_runs w2 n2) rfl rfl (And.intro (LeX.append _ _ _) ?_)
  have hu2 := up_runs n2 k hn2 (by omega)
  rw [← e2] at hu2
  refine CallS.snap hu2 rfl rfl (And.intro (LeX.append _ _ _) ?_)
  refine CallS.snap (or_runs _ _ (and_lt hn) (mod_lt128 _)) rfl rfl (And.intro (LeX.append _ _ _) ?_)
  refine CallS.snap (to_runs w (by omega) (by omega) _ (or_lt (and_lt hn) (mod_lt128 _))) rfl rfl ?_
  exact And.intro rfl rfl

/-- The value with its sign through all 128 places. -/
def sgn (w : Int) (n : Nat) : Nat := if n / 2 ^ (w - 1).toNat % 2 = 1 then n ||| (all1 - maskN w) else n

theorem sgn_lt {w : Int} {n : Nat} (hn : n < 2 ^ 128) : sgn w n < 2 ^ 128 := by
  unfold sgn; split
  · exact or_lt hn (all1_lt _)
  · exact hn

theorem isN_lt {w : Int} {n : Nat} (h : isN w n) : n < 2 ^ 128 := Nat.lt_of_lt_of_le h.2 (Nat.pow_le_pow_right (by omega) (by have := h.1; omega))

theorem maskN_one : maskN 1 = 1 := rfl

theorem signed_runs (w : Int) (n : Nat) (h : isN w n) : Runs Try.prog 52 [bt w n] (.t (wd (sgn w n))) := by
  have hn := isN_lt h
  have hw := h.1
  refine Runs.of_call ?_ rfl
  refine CallS.of_fn tab_ok reg_ok Try.func52 rfl rfl ?_
  have he := extract_runs w n (w - 1) (w - 1) hn
  have e1 : IntKind.i64.wrap (w - 1) = w - 1 := i64_in _ (by omega)
  rw [extT, if_pos ⟨h, by omega, by omega, by omega⟩, show w - 1 - (w - 1) + 1 = 1 by omega, maskN_one, and_one] at he
  rw [← e1] at he
  have hfl : Flat (.t (bt 1 (n / 2 ^ (IntKind.i64.wrap (w - 1)).toNat % 2))) := rfl
  refine CallS.snap he rfl hfl ?_
  refine br_intro (fun h2 => ?_) (fun h2 => ?_)
  · have h2 := eq_of_beq h2
    rw [e1] at h2
    have h2 : n / 2 ^ (w - 1).toNat % 2 = 1 := by omega
    rw [sgn, if_pos h2]
    refine draw_intro [(0, false), (2, false), (3, false), (1, false), (4, true), (5, true), (6, true), (7, true)] (by decide +kernel) ?_
    refine CallS.snap (of_runs w n) rfl rfl (And.intro (LeX.append _ _ _) ?_)
    refine CallS.snap (mask_runs w (by omega) (by omega)) rfl rfl ?_
    refine CallS.snap (not_runs _ (maskN_lt w)) rfl rfl ?_
    refine CallS.snap (or_runs n (all1 - maskN w) hn (all1_lt _)) rfl rfl ?_
    exact And.intro rfl rfl
  · have h2 := ne_of_beq_false h2
    rw [e1] at h2
    have h2 : ¬ n / 2 ^ (w - 1).toNat % 2 = 1 := by omega
    rw [sgn, if_neg h2]
    refine CallS.snap (of_runs w n) rfl rfl ?_
    exact And.intro rfl rfl

theorem zext_runs (w : Int) (n : Nat) (w2 : Int) (hn : n < 2 ^ 128) : Runs Try.prog 33 [bt w n, .int .i64 w2] (.t (if isN w n then makeT w2 n else bt 0 0)) := by
  refine Runs.of_call ?_ (by split <;> rfl)
  refine CallS.of_fn tab_ok reg_ok Try.func33 rfl rfl ?_
  refine CallS.snap (normal_runs w n hn) rfl rfl ?_
  refine br_intro (fun h => ?_) (fun h => ?_)
  · have h : ¬ isN w n := by simpa using h
    rw [if_neg h]
    exact And.intro rfl rfl
  · have h : isN w n := by simpa using h
    rw [if_pos h]
    refine CallS.snap (make_runs w2 n hn) rfl (makeT_flat _ _) ?_
    unfold makeT
    split
    · exact And.intro rfl rfl
    · exact And.intro rfl rfl

theorem sext_runs (w : Int) (n : Nat) (w2 : Int) (hn : n < 2 ^ 128) : Runs Try.prog 38 [bt w n, .int .i64 w2] (.t (if isN w n then makeT w2 (sgn w n) else bt 0 0)) := by
  refine Runs.of_call ?_ (by split <;> rfl)
  refine CallS.of_fn tab_ok reg_ok Try.func38 rfl rfl ?_
  refine CallS.snap (normal_runs w n hn) rfl rfl ?_
  refine br_intro (fun h => ?_) (fun h => ?_)
  · have h : ¬ isN w n := by simpa using h
    rw [if_neg h]
    exact And.intro rfl rfl
  · have h : isN w n := by simpa using h
    rw [if_pos h]
    refine CallS.snap (signed_runs w n h) rfl rfl ?_
    refine CallS.snap (make_runs w2 (sgn w n) (sgn_lt hn)) rfl (makeT_flat _ _) ?_
    unfold makeT
    split
    · exact And.intro rfl rfl
    · exact And.intro rfl rfl

def unT (op : Int) (w : Int) (n : Nat) : T :=
  if isN w n then (if op = 18 then bt w ((all1 - n) &&& maskN w) else if op = 19 then bt w ((2 ^ 128 - n) % 2 ^ 128 &&& maskN w) else bt 0 0) else bt 0 0

theorem un_runs (op : Int) (w : Int) (n : Nat) (hn : n < 2 ^ 128) : Runs Try.prog 22 [.int .i64 op, bt w n] (.t (unT op w n)) := by
  refine Runs.of_call ?_ rfl
  refine CallS.of_fn tab_ok reg_ok Try.func22 rfl rfl ?_
  refine CallS.snap (normal_runs w n hn) rfl rfl ?_
  refine br_intro (fun h => ?_) (fun h => ?_)
  · have h : ¬ isN w n := by simpa using h
    rw [unT, if_neg h]
    exact And.intro rfl rfl
  have h : isN w n := by simpa using h
  have hw := h.1
  rw [unT, if_pos h]
  refine br_intro (fun h2 => ?_) (fun h2 => ?_)
  · have h2 := eq_of_beq h2
    rw [if_pos h2]
    refine draw_intro [(0, false), (1, false), (2, false), (3, false), (4, false), (5, true), (6, true)] (by decide +kernel) ?_
    refine CallS.snap (of_runs w n) rfl rfl (And.intro (LeX.append _ _ _) ?_)
    refine CallS.snap (not_runs n hn) rfl rfl (And.intro (LeX.append _ _ _) ?_)
    refine CallS.snap (to_runs w (by omega) (by omega) (all1 - n) (all1_lt _)) rfl rfl ?_
    exact And.intro rfl rfl
  have h2 := ne_of_beq_false h2
  rw [if_neg h2]
  refine br_intro (fun h3 => ?_) (fun h3 => ?_)
  · have h3 := eq_of_beq h3
    rw [if_pos h3]
    refine draw_intro [(0, false), (1, false), (2, false), (3, false), (4, false), (5, true), (6, true)] (by decide +kernel) ?_
    refine CallS.snap (of_runs w n) rfl rfl (And.intro (LeX.append _ _ _) ?_)
    refine CallS.snap (neg_runs n hn) rfl rfl (And.intro (LeX.append _ _ _) ?_)
    refine CallS.snap (to_runs w (by omega) (by omega) _ (mod_lt128 _)) rfl rfl ?_
    exact And.intro rfl rfl
  · have h3 := ne_of_beq_false h3
    rw [if_neg h3]
    exact And.intro rfl rfl

theorem truth_runs (b : Bool) : Runs Try.prog 50 [.bool b] (.t (bt 1 (if b then 1 else 0))) := by
  refine Runs.of_call ?_ rfl
  refine CallS.of_fn tab_ok reg_ok Try.func50 rfl rfl ?_
  refine br_intro (fun h => ?_) (fun h => ?_)
  · subst h; exact And.intro rfl rfl
  · subst h; exact And.intro rfl rfl

def negB (w : Int) (n : Nat) : Bool := decide (2 ^ 127 ≤ sgn w n)

theorem negative_runs (w : Int) (n : Nat) (h : isN w n) : Runs Try.prog 72 [bt w n] (.t (.bool (negB w n))) := by
  have hn := isN_lt h
  refine Runs.of_call ?_ rfl
  refine CallS.of_fn tab_ok reg_ok Try.func72 rfl rfl ?_
  refine CallS.snap (signed_runs w n h) rfl rfl ?_
  refine And.intro (congrArg (fun b => some (T.bool b)) ?_) rfl
  have hs : sgn w n < 2 ^ 128 := sgn_lt hn
  rw [show ((sgn w n / 18446744073709551616 : Nat) : Int).fdiv (2 ^ (min (63 : Int).toNat IntKind.u64.bits)) = ((sgn w n / 18446744073709551616 / 2 ^ (min 63 64) : Nat) : Int) from shr_u64 _ 63]
  rw [negB, show (2 : Nat) ^ min 63 64 = 9223372036854775808 from rfl]
  by_cases hc : 2 ^ 127 ≤ sgn w n
  · rw [decide_eq_true hc]
    have : sgn w n / 18446744073709551616 / 9223372036854775808 = 1 := by omega
    rw [this]; rfl
  · rw [decide_eq_false hc]
    have : sgn w n / 18446744073709551616 / 9223372036854775808 = 0 := by omega
    rw [this]; rfl

end Go.Proofs.Ytkjhkcpgkccocaa
