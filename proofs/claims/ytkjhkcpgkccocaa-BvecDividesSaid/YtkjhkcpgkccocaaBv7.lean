/-
  Numbers of 128 bits: shifts by a number, division with signs, all operations on two.
-/
import Derived.Test.YtkjhkcpgkccocaaBv6
namespace Go.Proofs.Ytkjhkcpgkccocaa
open Go.IntWalk
set_option maxRecDepth 100000
set_option linter.unusedVariables false
set_option linter.unusedSimpArgs false

/-- How far is shifted. -/
def amt (w : Int) (n2 : Nat) : Nat := if (n2 : Int) < w then n2 else 128

def shrV (w : Int) (n n2 : Nat) : T := if amt w n2 = 128 then bt w 0 else bt w (n / 2 ^ amt w n2 &&& maskN w)
def shlV (w : Int) (n n2 : Nat) : T := if amt w n2 = 128 then bt w 0 else bt w (n * 2 ^ amt w n2 % 2 ^ 128 &&& maskN w)
def sarV (w : Int) (n n2 : Nat) : T := if negB w n then (if amt w n2 = 128 then bt w (maskN w &&& maskN w) else bt w ((sgn w n / 2 ^ amt w n2 ||| (all1 - maskN (128 - amt w n2))) &&& maskN w)) else shrV w n n2

def shiftT (op w : Int) (n n2 : Nat) : T := if op = 7 then shlV w n n2 else if op = 8 then shrV w n n2 else sarV w n n2

theorem shrV_flat (w : Int) (n n2 : Nat) : Flat (.t (shrV w n n2)) := by unfold shrV; split <;> rfl

theorem amt_le (w : Int) (n2 : Nat) (hw : w ≤ 128) : amt w n2 ≤ 128 := by unfold amt; split <;> omega
theorem amt_lt {w : Int} {n2 : Nat} (hw : w ≤ 128) (h : ¬ amt w n2 = 128) : amt w n2 < w := by unfold amt at *; split at h <;> simp_all

theorem shift_shr (w : Int) (n : Nat) (w2 : Int) (n2 : Nat) (h : isN w n) (hn2 : n2 < 2 ^ 128) : Runs Try.prog 40 [.int .i64 8, bt w n, bt w2 n2] (.t (shrV w n n2)) := by
  have hn := isN_lt h
  have hw := h.1
  refine Runs.of_call ?_ rfl
  refine CallS.of_fn tab_ok reg_ok Try.func40 rfl rfl ?_
  have ew : IntKind.u64.wrap w = w := by rw [IntKind.wrap_u64]; omega
  refine br_intro (fun h1 => br_intro (fun h2 => ?_) (fun h2 => ?_)) (fun h1 => ?_)
  · have h1 := eq_of_beq h1
    have h2 := of_decide_eq_true h2
    rw [ew] at h2
    have ha : amt w n2 = n2 := by rw [amt, if_pos (by omega)]
    have e : ((n2 % 18446744073709551616 : Nat) : Int) = (n2 : Int) := by omega
    refine br_intro (fun h3 => ?_) (fun h3 => ?_)
    · have h3 := eq_of_beq h3
      omega
    have hne : ¬ amt w n2 = 128 := by omega
    rw [shrV, if_neg hne, ha]
    refine draw_intro [(0, false), (1, false), (2, false), (4, false), (3, false), (5, false), (6, true), (7, true)] (by decide +kernel) ?_
    refine CallS.snap (of_runs w n) rfl rfl (And.intro (LeX.append _ _ _) ?_)
    have hd := down_runs n n2 hn (by omega)
    rw [← e] at hd
    refine CallS.snap hd rfl rfl (And.intro (LeX.append _ _ _) ?_)
    refine CallS.snap (to_runs w (by omega) (by omega) (n / 2 ^ n2) (div_lt128 _ hn)) rfl rfl ?_
    exact And.intro rfl rfl
  · have h1 := eq_of_beq h1
    have h2 := of_decide_eq_false h2
    rw [ew] at h2
    have ha : amt w n2 = 128 := by rw [amt, if_neg (by omega)]
    rw [shrV, if_pos ha]
    exact And.intro rfl rfl
  · have h1 := ne_of_beq_false h1
    have ha : amt w n2 = 128 := by rw [amt, if_neg (by omega)]
    rw [shrV, if_pos ha]
    exact And.intro rfl rfl

theorem shift_shl (w : Int) (n : Nat) (w2 : Int) (n2 : Nat) (h : isN w n) (hn2 : n2 < 2 ^ 128) : Runs Try.prog 40 [.int .i64 7, bt w n, bt w2 n2] (.t (shlV w n n2)) := by
  have hn := isN_lt h
  have hw := h.1
  refine Runs.of_call ?_ rfl
  refine CallS.of_fn tab_ok reg_ok Try.func40 rfl rfl ?_
  have ew : IntKind.u64.wrap w = w := by rw [IntKind.wrap_u64]; omega
  refine br_intro (fun h1 => br_intro (fun h2 => ?_) (fun h2 => ?_)) (fun h1 => ?_)
  · have h1 := eq_of_beq h1
    have h2 := of_decide_eq_true h2
    rw [ew] at h2
    have ha : amt w n2 = n2 := by rw [amt, if_pos (by omega)]
    have e : ((n2 % 18446744073709551616 : Nat) : Int) = (n2 : Int) := by omega
    refine br_intro (fun h3 => ?_) (fun h3 => ?_)
    · have h3 := eq_of_beq h3
      omega
    have hne : ¬ amt w n2 = 128 := by omega
    rw [shlV, if_neg hne, ha]
    refine draw_intro [(0, false), (1, false), (2, false), (4, false), (3, false), (5, false), (6, true), (7, true)] (by decide +kernel) ?_
    refine CallS.snap (of_runs w n) rfl rfl (And.intro (LeX.append _ _ _) ?_)
    have hd := up_runs n n2 hn (by omega)
    rw [← e] at hd
    refine CallS.snap hd rfl rfl (And.intro (LeX.append _ _ _) ?_)
    refine CallS.snap (to_runs w (by omega) (by omega) (n * 2 ^ n2 % 2 ^ 128) (mod_lt128 _)) rfl rfl ?_
    exact And.intro rfl rfl
  · have h1 := eq_of_beq h1
    have h2 := of_decide_eq_false h2
    rw [ew] at h2
    have ha : amt w n2 = 128 := by rw [amt, if_neg (by omega)]
    rw [shlV, if_pos ha]
    exact And.intro rfl rfl
  · have h1 := ne_of_beq_false h1
    have ha : amt w n2 = 128 := by rw [amt, if_neg (by omega)]
    rw [shlV, if_pos ha]
    exact And.intro rfl rfl

theorem shift_sar (w : Int) (n : Nat) (w2 : Int) (n2 : Nat) (h : isN w n) (hn2 : n2 < 2 ^ 128) : Runs Try.prog 40 [.int .i64 9, bt w n, bt w2 n2] (.t (sarV w n n2)) := by
  have hn := isN_lt h
  have hw := h.1
  refine Runs.of_call ?_ rfl
  refine CallS.of_fn tab_ok reg_ok Try.func40 rfl rfl ?_
  have ew : IntKind.u64.wrap w = w := by rw [IntKind.wrap_u64]; omega
  have pos : negB w n = false → sarV w n n2 = shrV w n n2 := fun hb => by rw [sarV, hb]; rfl
  have far : amt w n2 = 128 → negB w n = true → sarV w n n2 = bt w (maskN w &&& maskN w) := fun ha hb => by rw [sarV, if_pos hb, if_pos ha]
  refine br_intro (fun h1 => br_intro (fun h2 => ?_) (fun h2 => ?_)) (fun h1 => ?_)
  · have h1 := eq_of_beq h1
    have h2 := of_decide_eq_true h2
    rw [ew] at h2
    have ha : amt w n2 = n2 := by rw [amt, if_pos (by omega)]
    have e : ((n2 % 18446744073709551616 : Nat) : Int) = (n2 : Int) := by omega
    refine CallS.snap (negative_runs w n h) rfl rfl ?_
    refine br_intro (fun h3 => ?_) (fun h3 => ?_)
    · have h3 : negB w n = false := by simpa using h3
      rw [pos h3]
      refine CallS.snap (shift_shr w n w2 n2 h hn2) rfl (shrV_flat _ _ _) ?_
      unfold shrV
      split
      · exact And.intro rfl rfl
      · exact And.intro rfl rfl
    have h3 : negB w n = true := by simpa using h3
    refine br_intro (fun h4 => ?_) (fun h4 => ?_)
    · have h4 := eq_of_beq h4
      omega
    have hne : ¬ amt w n2 = 128 := by omega
    rw [sarV, if_pos h3, if_neg hne, ha]
    refine draw_intro [(0, false), (1, false), (2, false), (4, false), (6, false), (7, false), (8, false), (3, false), (5, false), (9, false), (10, false), (11, false), (12, true), (13, true)] (by decide +kernel) ?_
    refine CallS.snap (signed_runs w n h) rfl rfl (And.intro (LeX.append _ _ _) ?_)
    have hd := down_runs (sgn w n) n2 (sgn_lt hn) (by omega)
    rw [← e] at hd
    refine CallS.snap hd rfl rfl (And.intro (LeX.append _ _ _) ?_)
    have e3 : IntKind.i64.wrap (128 - IntKind.i64.wrap ((n2 % 18446744073709551616 : Nat) : Int)) = 128 - (n2 : Int) := by rw [e, i64_in (n2 : Int) (by omega), i64_in _ (by omega)]
    have hm := mask_runs (128 - (n2 : Int)) (by omega) (by omega)
    rw [← e3] at hm
    refine CallS.snap hm rfl rfl (And.intro (LeX.append _ _ _) ?_)
    rw [e3]
    refine CallS.snap (not_runs _ (maskN_lt _)) rfl rfl (And.intro (LeX.append _ _ _) ?_)
    refine CallS.snap (or_runs (sgn w n / 2 ^ n2) (all1 - maskN (128 - (n2 : Int))) (div_lt128 _ (sgn_lt hn)) (all1_lt _)) rfl rfl (And.intro (LeX.append _ _ _) ?_)
    refine CallS.snap (to_runs w (by omega) (by omega) _ (or_lt (div_lt128 _ (sgn_lt hn)) (all1_lt _))) rfl rfl ?_
    exact And.intro rfl rfl
  all_goals
    have ha : amt w n2 = 128 := by
      first
      | (have h2 := of_decide_eq_false h2
         have h1 := eq_of_beq h1
         rw [ew] at h2
         rw [amt, if_neg (by omega)])
      | (have h1 := ne_of_beq_false h1
         rw [amt, if_neg (by omega)])
    refine CallS.snap (negative_runs w n h) rfl rfl ?_
    refine br_intro (fun h3 => ?_) (fun h3 => ?_)
    · have h3 : negB w n = false := by simpa using h3
      rw [pos h3]
      refine CallS.snap (shift_shr w n w2 n2 h hn2) rfl (shrV_flat _ _ _) ?_
      unfold shrV
      split
      · exact And.intro rfl rfl
      · exact And.intro rfl rfl
    · have h3 : negB w n = true := by simpa using h3
      rw [far ha h3]
      refine draw_intro [(0, false), (1, false), (2, false), (3, false), (4, false), (5, true), (6, true)] (by decide +kernel) ?_
      refine CallS.snap (mask_runs w (by omega) (by omega)) rfl rfl (And.intro (LeX.append _ _ _) ?_)
      refine CallS.snap (to_runs w (by omega) (by omega) _ (maskN_lt w)) rfl rfl ?_
      exact And.intro rfl rfl

/-- Quotient or rest, as the operation says. -/
def negN (n : Nat) : Nat := (2 ^ 128 - n) % 2 ^ 128

def divT (op w : Int) (n n2 : Nat) : T :=
  if n2 = 0 then (if op = 11 ∨ op = 13 then bt w n else bt w (maskN w &&& maskN w)) else
  let ma := decide (op = 12 ∨ op = 13) && negB w n
  let mb := decide (op = 12 ∨ op = 13) && negB w n2
  let x := if ma then negN (sgn w n) else n
  let y := if mb then negN (sgn w n2) else n2
  if op = 11 ∨ op = 13 then bt w ((if ma then negN (x % y) else x % y) &&& maskN w) else bt w ((if ma != mb then negN (x / y) else x / y) &&& maskN w)

end Go.Proofs.Ytkjhkcpgkccocaa
