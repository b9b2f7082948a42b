/-
  Numbers of 128 bits: every operation on two; the signed value; what fits.
-/
import Derived.Test.YtkjhkcpgkccocaaBv8
namespace Go.Proofs.Ytkjhkcpgkccocaa
open Go.IntWalk
set_option maxRecDepth 100000
set_option linter.unusedVariables false
set_option linter.unusedSimpArgs false

def flip : Nat := 170141183460469231731687303715884105728

/-- An operation on two of one width. -/
def binW (op w : Int) (n n2 : Nat) : T :=
  if op = 1 then bt w ((n + n2) % 2 ^ 128 &&& maskN w) else
  if op = 2 then bt w ((n + 2 ^ 128 - n2) % 2 ^ 128 &&& maskN w) else
  if op = 3 then bt w (n * n2 % 2 ^ 128 &&& maskN w) else
  if op = 4 then bt w ((n &&& n2) &&& maskN w) else
  if op = 5 then bt w ((n ||| n2) &&& maskN w) else
  if op = 6 then bt w ((n ^^^ n2) &&& maskN w) else
  if op = 10 ∨ op = 11 ∨ op = 12 ∨ op = 13 then divT op w n n2 else
  if op = 14 then bt 1 (if decide (n = n2) then 1 else 0) else
  if op = 15 then bt 1 (if decide (n < n2) then 1 else 0) else
  if op = 16 then bt 1 (if decide ((sgn w n ^^^ flip) < (sgn w n2 ^^^ flip)) then 1 else 0) else bt 0 0

def binT (op w : Int) (n : Nat) (w2 : Int) (n2 : Nat) : T :=
  if isN w n ∧ isN w2 n2 then
    if op = 7 ∨ op = 8 ∨ op = 9 then shiftT op w n n2 else
    if op = 17 then (if w > 128 - w2 then bt 0 0 else bt (w + w2) ((n * 2 ^ w2.toNat % 2 ^ 128 ||| n2) &&& maskN (w + w2))) else
    if w = w2 then binW op w n n2 else bt 0 0
  else bt 0 0

theorem btI_flat (w : Int) (p : Bool) : Flat (.t (bt w (if p then 1 else 0))) := by cases p <;> rfl

theorem eqN (n n2 : Nat) (hn : n < 2 ^ 128) (hn2 : n2 < 2 ^ 128) : (((n / 18446744073709551616 : Nat) : Int) == ((n2 / 18446744073709551616 : Nat) : Int) && (((n % 18446744073709551616 : Nat) : Int) == ((n2 % 18446744073709551616 : Nat) : Int) && true)) = decide (n = n2) := by
  by_cases h : n = n2
  · subst h; simp
  · rw [decide_eq_false h, Bool.eq_false_iff]
    intro hh
    simp at hh
    omega

theorem xor_lt {a b : Nat} (ha : a < 2 ^ 128) (hb : b < 2 ^ 128) : a ^^^ b < 2 ^ 128 := Nat.xor_lt_two_pow ha hb

theorem divT_flat (op w : Int) (n n2 : Nat) : Flat (.t (divT op w n n2)) := by
  unfold divT
  split
  · split <;> rfl
  · dsimp only
    split <;> rfl

theorem divT_bt (op w : Int) (n n2 : Nat) : ∃ v, divT op w n n2 = bt w v := by
  unfold divT
  split
  · split <;> exact ⟨_, rfl⟩
  · dsimp only
    split <;> exact ⟨_, rfl⟩

theorem shl_bt (w : Int) (n n2 : Nat) : ∃ v, shlV w n n2 = bt w v := by unfold shlV; split <;> exact ⟨_, rfl⟩
theorem shr_bt (w : Int) (n n2 : Nat) : ∃ v, shrV w n n2 = bt w v := by unfold shrV; split <;> exact ⟨_, rfl⟩
theorem sar_bt (w : Int) (n n2 : Nat) : ∃ v, sarV w n n2 = bt w v := by
  unfold sarV
  split
  · split <;> exact ⟨_, rfl⟩
  · exact shr_bt w n n2

theorem bin_runs (op w : Int) (n : Nat) (w2 : Int) (n2 : Nat) (hn : n < 2 ^ 128) (hn2 : n2 < 2 ^ 128) : Runs Try.prog 14 [.int .i64 op, bt w n, bt w2 n2] (.t (binT op w n w2 n2)) := by
  refine Runs.of_call ?_ rfl
  refine CallS.of_fn tab_ok reg_ok Try.func14 rfl rfl ?_
  refine CallS.snap (normal_runs w n hn) rfl rfl ?_
  have bad : ¬ (isN w n ∧ isN w2 n2) → binT op w n w2 n2 = bt 0 0 := fun h => by rw [binT, if_neg h]
  refine br_intro (fun h => ?_) (fun h => ?_)
  · have h : ¬ isN w n := by simpa using h
    rw [bad (fun hh => h hh.1)]
    exact And.intro rfl rfl
  have h : isN w n := by simpa using h
  refine CallS.snap (normal_runs w2 n2 hn2) rfl rfl ?_
  refine br_intro (fun h1 => ?_) (fun h1 => ?_)
  · have h1 : ¬ isN w2 n2 := by simpa using h1
    rw [bad (fun hh => h1 hh.2)]
    exact And.intro rfl rfl
  have h1 : isN w2 n2 := by simpa using h1
  have hw := h.1
  have hw2 := h1.1
  rw [binT, if_pos ⟨h, h1⟩]
  refine draw_intro [(0, false), (2, false), (4, false), (5, false), (1, false), (3, false), (6, true), (7, true)] (by decide +kernel) ?_
  refine CallS.snap (of_runs w n) rfl rfl (And.intro (LeX.append _ _ _) ?_)
  refine CallS.snap (of_runs w2 n2) rfl rfl (And.intro (LeX.append _ _ _) ?_)
  have hto := fun v (hv : v < 2 ^ 128) => to_runs w (by omega) (by omega) v hv
  refine br_intro (fun g7 => ?_) (fun g7 => ?_)
  · have g7 := eq_of_beq g7
    subst g7
    have hs := shift_shl w n w2 n2 h hn2
    obtain ⟨v, hv⟩ := shl_bt w n n2
    rw [hv] at hs
    have e : shiftT 7 w n n2 = bt w v := hv
    rw [if_pos (by omega), e]
    refine CallS.snap hs rfl rfl ?_
    exact And.intro rfl rfl
  have g7 := ne_of_beq_false g7
  refine br_intro (fun g8 => ?_) (fun g8 => ?_)
  · have g8 := eq_of_beq g8
    subst g8
    have hs := shift_shr w n w2 n2 h hn2
    obtain ⟨v, hv⟩ := shr_bt w n n2
    rw [hv] at hs
    have e : shiftT 8 w n n2 = bt w v := hv
    rw [if_pos (by omega), e]
    refine CallS.snap hs rfl rfl ?_
    exact And.intro rfl rfl
  have g8 := ne_of_beq_false g8
  refine br_intro (fun g9 => ?_) (fun g9 => ?_)
  · have g9 := eq_of_beq g9
    subst g9
    have hs := shift_sar w n w2 n2 h hn2
    obtain ⟨v, hv⟩ := sar_bt w n n2
    rw [hv] at hs
    have e : shiftT 9 w n n2 = bt w v := hv
    rw [if_pos (by omega), e]
    refine CallS.snap hs rfl rfl ?_
    exact And.intro rfl rfl
  have g9 := ne_of_beq_false g9
  rw [if_neg (by omega)]
  refine br_intro (fun g17 => ?_) (fun g17 => ?_)
  · have g17 := eq_of_beq g17
    rw [if_pos g17]
    have e1 : IntKind.i64.wrap (128 - w2) = 128 - w2 := i64_in _ (by omega)
    refine br_intro (fun g => ?_) (fun g => ?_)
    · have g := of_decide_eq_true g
      rw [e1] at g
      rw [if_pos g]
      exact And.intro rfl rfl
    have g := of_decide_eq_false g
    rw [e1] at g
    rw [if_neg g]
    obtain ⟨k, rfl⟩ := Int.eq_ofNat_of_zero_le (show 0 ≤ w2 by omega)
    have e2 : IntKind.u64.wrap (k : Int) = (k : Int) := u64_nat (by omega)
    have e3 : IntKind.i64.wrap (w + (k : Int)) = w + k := i64_in _ (by omega)
    refine draw_intro [(0, false), (1, false), (2, false), (3, false), (4, false), (5, false), (6, false), (7, false), (8, false), (10, false), (9, false), (11, false), (12, true), (13, true)] (by decide +kernel) ?_
    have hu := up_runs n k hn (by omega)
    rw [← e2] at hu
    refine CallS.snap hu rfl rfl (And.intro (LeX.append _ _ _) ?_)
    refine CallS.snap (or_runs (n * 2 ^ k % 2 ^ 128) n2 (mod_lt128 _) hn2) rfl rfl (And.intro (LeX.append _ _ _) ?_)
    rw [Int.toNat_natCast]
    have ht : Runs Try.prog 41 [.int .i64 (IntKind.i64.wrap (w + (k : Int))), wd (n * 2 ^ k % 2 ^ 128 ||| n2)] (.t (bt (w + (k : Int)) ((n * 2 ^ k % 2 ^ 128 ||| n2) &&& maskN (w + (k : Int))))) := by
      rw [e3]; exact to_runs (w + (k : Int)) (by omega) (by omega) _ (or_lt (mod_lt128 _) hn2)
    refine CallS.snap ht rfl rfl ?_
    exact And.intro rfl rfl
  have g17 := ne_of_beq_false g17
  rw [if_neg g17]
  refine br_intro (fun gw => ?_) (fun gw => ?_)
  · have gw : ¬ w = w2 := by simpa using gw
    rw [if_neg gw]
    exact And.intro rfl rfl
  have gw : w = w2 := by simpa using gw
  subst gw
  rw [if_pos rfl]
  refine br_intro (fun g1 => ?_) (fun g1 => ?_)
  · have g1 := eq_of_beq g1
    subst g1
    have e : binW 1 w n n2 = bt w (((n + n2) % 2 ^ 128) &&& maskN w) := rfl
    rw [e]
    refine draw_intro [(0, false), (1, false), (2, false), (3, false), (4, false), (5, true), (6, true)] (by decide +kernel) ?_
    refine CallS.snap (add_runs n n2 hn hn2) rfl rfl (And.intro (LeX.append _ _ _) ?_)
    refine CallS.snap (hto ((n + n2) % 2 ^ 128) (mod_lt128 _)) rfl rfl ?_
    exact And.intro rfl rfl
  have g1 := ne_of_beq_false g1
  refine br_intro (fun g2 => ?_) (fun g2 => ?_)
  · have g2 := eq_of_beq g2
    subst g2
    have e : binW 2 w n n2 = bt w (((n + 2 ^ 128 - n2) % 2 ^ 128) &&& maskN w) := rfl
    rw [e]
    refine draw_intro [(0, false), (1, false), (2, false), (3, false), (4, false), (5, true), (6, true)] (by decide +kernel) ?_
    refine CallS.snap (sub_runs n n2 hn hn2) rfl rfl (And.intro (LeX.append _ _ _) ?_)
    refine CallS.snap (hto ((n + 2 ^ 128 - n2) % 2 ^ 128) (mod_lt128 _)) rfl rfl ?_
    exact And.intro rfl rfl
  have g2 := ne_of_beq_false g2
  refine br_intro (fun g3 => ?_) (fun g3 => ?_)
  · have g3 := eq_of_beq g3
    subst g3
    have e : binW 3 w n n2 = bt w ((n * n2 % 2 ^ 128) &&& maskN w) := rfl
    rw [e]
    refine draw_intro [(0, false), (1, false), (2, false), (3, false), (4, false), (5, true), (6, true)] (by decide +kernel) ?_
    refine CallS.snap (mul_runs n n2 hn hn2) rfl rfl (And.intro (LeX.append _ _ _) ?_)
    refine CallS.snap (hto (n * n2 % 2 ^ 128) (mod_lt128 _)) rfl rfl ?_
    exact And.intro rfl rfl
  have g3 := ne_of_beq_false g3
  refine br_intro (fun g4 => ?_) (fun g4 => ?_)
  · have g4 := eq_of_beq g4
    subst g4
    have e : binW 4 w n n2 = bt w ((n &&& n2) &&& maskN w) := rfl
    rw [e]
    refine draw_intro [(0, false), (1, false), (2, false), (3, false), (4, false), (5, true), (6, true)] (by decide +kernel) ?_
    refine CallS.snap (and_runs n n2 hn hn2) rfl rfl (And.intro (LeX.append _ _ _) ?_)
    refine CallS.snap (hto (n &&& n2) (and_lt hn)) rfl rfl ?_
    exact And.intro rfl rfl
  have g4 := ne_of_beq_false g4
  refine br_intro (fun g5 => ?_) (fun g5 => ?_)
  · have g5 := eq_of_beq g5
    subst g5
    have e : binW 5 w n n2 = bt w ((n ||| n2) &&& maskN w) := rfl
    rw [e]
    refine draw_intro [(0, false), (1, false), (2, false), (3, false), (4, false), (5, true), (6, true)] (by decide +kernel) ?_
    refine CallS.snap (or_runs n n2 hn hn2) rfl rfl (And.intro (LeX.append _ _ _) ?_)
    refine CallS.snap (hto (n ||| n2) (or_lt hn hn2)) rfl rfl ?_
    exact And.intro rfl rfl
  have g5 := ne_of_beq_false g5
  refine br_intro (fun g6 => ?_) (fun g6 => ?_)
  · have g6 := eq_of_beq g6
    subst g6
    have e : binW 6 w n n2 = bt w ((n ^^^ n2) &&& maskN w) := rfl
    rw [e]
    refine draw_intro [(0, false), (1, false), (2, false), (3, false), (4, false), (5, true), (6, true)] (by decide +kernel) ?_
    refine CallS.snap (xor_runs n n2 hn hn2) rfl rfl (And.intro (LeX.append _ _ _) ?_)
    refine CallS.snap (hto (n ^^^ n2) (xor_lt hn hn2)) rfl rfl ?_
    exact And.intro rfl rfl
  have g6 := ne_of_beq_false g6
  refine br_intro (fun g10 => ?_) (fun g10 => ?_)
  · have g10 := eq_of_beq g10
    subst g10
    have hd := divide_u 10 (by omega) w n w n2 h hn2
    obtain ⟨v, hv⟩ := divT_bt 10 w n n2
    rw [hv] at hd
    have e : binW 10 w n n2 = bt w v := hv
    rw [e]
    refine CallS.snap hd rfl rfl ?_
    exact And.intro rfl rfl
  have g10 := ne_of_beq_false g10
  refine br_intro (fun g11 => ?_) (fun g11 => ?_)
  · have g11 := eq_of_beq g11
    subst g11
    have hd := divide_u 11 (by omega) w n w n2 h hn2
    obtain ⟨v, hv⟩ := divT_bt 11 w n n2
    rw [hv] at hd
    have e : binW 11 w n n2 = bt w v := hv
    rw [e]
    refine CallS.snap hd rfl rfl ?_
    exact And.intro rfl rfl
  have g11 := ne_of_beq_false g11
  refine br_intro (fun g12 => ?_) (fun g12 => ?_)
  · have g12 := eq_of_beq g12
    subst g12
    have hd := divide_s 12 (by omega) w n n2 h h1
    obtain ⟨v, hv⟩ := divT_bt 12 w n n2
    rw [hv] at hd
    have e : binW 12 w n n2 = bt w v := hv
    rw [e]
    refine CallS.snap hd rfl rfl ?_
    exact And.intro rfl rfl
  have g12 := ne_of_beq_false g12
  refine br_intro (fun g13 => ?_) (fun g13 => ?_)
  · have g13 := eq_of_beq g13
    subst g13
    have hd := divide_s 13 (by omega) w n n2 h h1
    obtain ⟨v, hv⟩ := divT_bt 13 w n n2
    rw [hv] at hd
    have e : binW 13 w n n2 = bt w v := hv
    rw [e]
    refine CallS.snap hd rfl rfl ?_
    exact And.intro rfl rfl
  have g13 := ne_of_beq_false g13
  refine br_intro (fun g14 => ?_) (fun g14 => ?_)
  · have g14 := eq_of_beq g14
    subst g14
    have e : binW 14 w n n2 = bt 1 (if decide (n = n2) then 1 else 0) := rfl
    rw [e]
    refine And.intro eq49 ?_
    have ht := truth_runs (decide (n = n2))
    rw [← eqN n n2 hn hn2] at ht ⊢
    refine CallS.snap ht rfl (btI_flat _ _) ?_
    exact And.intro rfl rfl
  have g14 := ne_of_beq_false g14
  refine br_intro (fun g15 => ?_) (fun g15 => ?_)
  · have g15 := eq_of_beq g15
    subst g15
    have e : binW 15 w n n2 = bt 1 (if decide (n < n2) then 1 else 0) := rfl
    rw [e]
    refine CallS.snap (less_runs n n2) rfl rfl ?_
    refine CallS.snap (truth_runs (decide (n < n2))) rfl (btI_flat _ _) ?_
    exact And.intro rfl rfl
  have g15 := ne_of_beq_false g15
  refine br_intro (fun g16 => ?_) (fun g16 => ?_)
  · have g16 := eq_of_beq g16
    subst g16
    have e : binW 16 w n n2 = bt 1 (if decide ((sgn w n ^^^ flip) < (sgn w n2 ^^^ flip)) then 1 else 0) := rfl
    rw [e]
    refine draw_intro [(0, false), (2, false), (4, false), (6, false), (1, false), (3, false), (5, false), (7, true), (8, true), (9, true), (10, true)] (by decide +kernel) ?_
    refine CallS.snap (signed_runs w n h) rfl rfl (And.intro (LeX.append _ _ _) ?_)
    refine CallS.snap (xor_runs (sgn w n) flip (sgn_lt hn) (by decide)) rfl rfl (And.intro (LeX.append _ _ _) ?_)
    refine CallS.snap (signed_runs w n2 h1) rfl rfl (And.intro (LeX.append _ _ _) ?_)
    refine CallS.snap (xor_runs (sgn w n2) flip (sgn_lt hn2) (by decide)) rfl rfl ?_
    refine CallS.snap (less_runs (sgn w n ^^^ flip) (sgn w n2 ^^^ flip)) rfl rfl ?_
    refine CallS.snap (truth_runs (decide ((sgn w n ^^^ flip) < (sgn w n2 ^^^ flip)))) rfl (btI_flat _ _) ?_
    exact And.intro rfl rfl
  have g16 := ne_of_beq_false g16
  have e : binW op w n n2 = bt 0 0 := by
    rw [binW, if_neg g1, if_neg g2, if_neg g3, if_neg g4, if_neg g5, if_neg g6, if_neg (by omega), if_neg g14, if_neg g15, if_neg g16]
  rw [e]
  exact And.intro rfl rfl

end Go.Proofs.Ytkjhkcpgkccocaa
