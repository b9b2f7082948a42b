/-
  The document's answer on bits: every operation on two.
-/
import Derived.Test.YtkjhkcpgkccocaaLk
namespace Go.Proofs.Ytkjhkcpgkccocaa
open Go.IntWalk
set_option maxRecDepth 100000
set_option linter.unusedVariables false
set_option linter.unusedSimpArgs false

/-- Is the signed value less? -/
def rlts (n n2 w : Nat) : Bool := (n.testBit (w - 1) != n2.testBit (w - 1)) && n.testBit (w - 1) || (n.testBit (w - 1) == n2.testBit (w - 1)) && decide (n < n2)

def rbinW (op : Int) (w n n2 : Nat) : T :=
  if op = 1 then bt w ((n + n2 + 0) % 2 ^ w) else
  if op = 2 then bt w ((n + compl n2 w + 1) % 2 ^ w) else
  if op = 3 then bt w (n * n2 % 2 ^ w) else
  if op = 4 ∨ op = 5 ∨ op = 6 then bt w (bitN op n n2 % 2 ^ w) else
  if op = 10 then bt w (rquo false n n2 w % 2 ^ w) else
  if op = 11 then bt w (rrem false n n2 w % 2 ^ w) else
  if op = 12 then bt w (rquo true n n2 w % 2 ^ w) else
  if op = 13 then bt w (rrem true n n2 w % 2 ^ w) else
  if op = 14 then bt 1 (if decide (n = n2) then 1 else 0) else
  if op = 15 then bt 1 (if decide (n < n2) then 1 else 0) else
  if op = 16 then bt 1 (if rlts n n2 w then 1 else 0) else bt 0 0

def ramt (w n2 : Nat) : Nat := if n2 < w then n2 else w

def rbinT (op w : Int) (n : Nat) (w2 : Int) (n2 : Nat) : T :=
  if isN w n ∧ isN w2 n2 then
    if op = 7 ∨ op = 8 ∨ op = 9 then bt w (shiftN op n w.toNat (min (ramt w.toNat n2) w.toNat) % 2 ^ w.toNat) else
    if op = 17 then (if w + w2 ≤ 128 then bt ((w2.toNat + w.toNat : Nat) : Int) ((n2 % 2 ^ w2.toNat + 2 ^ w2.toNat * n) % 2 ^ (w2.toNat + w.toNat)) else bt 0 0) else
    if w = w2 then rbinW op w.toNat n n2 else bt 0 0
  else bt 0 0

theorem eqB (w w' : Int) (n n2 : Nat) (hn : n < 2 ^ 128) (hn2 : n2 < 2 ^ 128) : (w == w' && (((n / 18446744073709551616 : Nat) : Int) == ((n2 / 18446744073709551616 : Nat) : Int) && (((n % 18446744073709551616 : Nat) : Int) == ((n2 % 18446744073709551616 : Nat) : Int) && true))) = decide (w = w' ∧ n = n2) := by
  rw [eqN n n2 hn hn2, Bool.decide_and]
  rfl
theorem eqBw (w : Nat) (n n2 : Nat) (hn : n < 2 ^ 128) (hn2 : n2 < 2 ^ 128) : ((w : Int) == (w : Int) && (((n / 18446744073709551616 : Nat) : Int) == ((n2 / 18446744073709551616 : Nat) : Int) && (((n % 18446744073709551616 : Nat) : Int) == ((n2 % 18446744073709551616 : Nat) : Int) && true))) = decide (n = n2) := by
  rw [eqB _ _ _ _ hn hn2, decide_eq_decide]
  exact ⟨fun h => h.2, fun h => ⟨rfl, h⟩⟩

theorem rbin_runs (op w : Int) (n : Nat) (w2 : Int) (n2 : Nat) (hn : n < 2 ^ 128) (hn2 : n2 < 2 ^ 128) : Runs Try.prog 15 [.int .i64 op, bt w n, bt w2 n2] (.t (rbinT op w n w2 n2)) := by
  refine Runs.of_call ?_ rfl
  refine CallS.of_fn tab_ok reg_ok Try.func15 rfl rfl ?_
  refine CallS.snap (rnormal_runs w n hn) rfl rfl ?_
  have bad : ¬ (isN w n ∧ isN w2 n2) → rbinT op w n w2 n2 = bt 0 0 := fun h => by rw [rbinT, if_neg h]
  refine br_intro (fun h => ?_) (fun h => ?_)
  · have h : ¬ isN w n := by simpa using h
    rw [bad (fun hh => h hh.1)]
    exact And.intro rfl rfl
  have h : isN w n := by simpa using h
  refine CallS.snap (rnormal_runs w2 n2 hn2) rfl rfl ?_
  refine br_intro (fun h1 => ?_) (fun h1 => ?_)
  · have h1 : ¬ isN w2 n2 := by simpa using h1
    rw [bad (fun hh => h1 hh.2)]
    exact And.intro rfl rfl
  have h1 : isN w2 n2 := by simpa using h1
  have hw := h.1
  have hw2 := h1.1
  rw [rbinT, if_pos ⟨h, h1⟩]
  obtain ⟨w, rfl⟩ := Int.eq_ofNat_of_zero_le (show 0 ≤ w by omega)
  obtain ⟨w2, rfl⟩ := Int.eq_ofNat_of_zero_le (show 0 ≤ w2 by omega)
  have hlt : n < 2 ^ w := h.2
  have hlt2 : n2 < 2 ^ w2 := h1.2
  rw [Int.toNat_natCast, Int.toNat_natCast]
  refine draw_intro [(0, false), (2, false), (1, false), (3, true), (4, true), (5, true)] (by decide +kernel) ?_
  refine CallS.snap (rof_runs (w : Int) n hn (by omega) (by omega)) rfl (oB_flat _) (And.intro (LeX.append _ _ _) ?_)
  refine CallS.snap (rof_runs (w2 : Int) n2 hn2 (by omega) (by omega)) rfl (oB_flat _) ?_
  have hL := LB_all (bitsL n w)
  have hL2 := LB_all (bitsL n2 w2)
  have hlen : (LB (bitsL n w)).length = w := LBb_len _ _
  have hlen2 : (LB (bitsL n2 w2)).length = w2 := LBb_len _ _
  have ewu : IntKind.u64.wrap (w : Int) = (w : Int) := u64_nat (by omega)
  refine br_intro (fun g7 => ?_) (fun g7 => ?_)
  · have g7 := eq_of_beq g7
    subst g7
    rw [if_pos (by omega)]
    refine br_intro (fun g => ?_) (fun g => ?_)
    · have g := eq_of_beq g
      refine br_intro (fun g' => ?_) (fun g' => ?_)
      · have g' := of_decide_eq_true g'
        rw [ewu] at g'
        have hr : ramt w n2 = n2 := by rw [ramt, if_pos (by omega)]
        have e : IntKind.i64.wrap ((n2 % 18446744073709551616 : Nat) : Int) = (n2 : Int) := by rw [i64_in _ (by omega)]; omega
        rw [hr]
        have hs := rshift_runs 7 n w n2 hL (by omega) (by omega) hlt (by omega)
        rw [← e] at hs
        refine CallS.snap hs rfl (oB_flat _) ?_
        refine CallS.snap (to_bits (shiftN 7 n w (min n2 w)) w (LB_all _) (by omega) (by omega)) rfl rfl ?_
        exact And.intro rfl rfl
      · have g' := of_decide_eq_false g'
        rw [ewu] at g'
        have hr : ramt w n2 = w := by rw [ramt, if_neg (by omega)]
        rw [hr]
        refine CallS.snap (rshift_runs 7 n w w hL (by omega) (by omega) hlt (by omega)) rfl (oB_flat _) ?_
        refine CallS.snap (to_bits (shiftN 7 n w (min w w)) w (LB_all _) (by omega) (by omega)) rfl rfl ?_
        exact And.intro rfl rfl
    · have g := ne_of_beq_false g
      have hr : ramt w n2 = w := by rw [ramt, if_neg (by omega)]
      rw [hr]
      refine CallS.snap (rshift_runs 7 n w w hL (by omega) (by omega) hlt (by omega)) rfl (oB_flat _) ?_
      refine CallS.snap (to_bits (shiftN 7 n w (min w w)) w (LB_all _) (by omega) (by omega)) rfl rfl ?_
      exact And.intro rfl rfl
  have g7 := ne_of_beq_false g7
  refine br_intro (fun g8 => ?_) (fun g8 => ?_)
  · have g8 := eq_of_beq g8
    subst g8
    rw [if_pos (by omega)]
    refine br_intro (fun g => ?_) (fun g => ?_)
    · have g := eq_of_beq g
      refine br_intro (fun g' => ?_) (fun g' => ?_)
      · have g' := of_decide_eq_true g'
        rw [ewu] at g'
        have hr : ramt w n2 = n2 := by rw [ramt, if_pos (by omega)]
        have e : IntKind.i64.wrap ((n2 % 18446744073709551616 : Nat) : Int) = (n2 : Int) := by rw [i64_in _ (by omega)]; omega
        rw [hr]
        have hs := rshift_runs 8 n w n2 hL (by omega) (by omega) hlt (by omega)
        rw [← e] at hs
        refine CallS.snap hs rfl (oB_flat _) ?_
        refine CallS.snap (to_bits (shiftN 8 n w (min n2 w)) w (LB_all _) (by omega) (by omega)) rfl rfl ?_
        exact And.intro rfl rfl
      · have g' := of_decide_eq_false g'
        rw [ewu] at g'
        have hr : ramt w n2 = w := by rw [ramt, if_neg (by omega)]
        rw [hr]
        refine CallS.snap (rshift_runs 8 n w w hL (by omega) (by omega) hlt (by omega)) rfl (oB_flat _) ?_
        refine CallS.snap (to_bits (shiftN 8 n w (min w w)) w (LB_all _) (by omega) (by omega)) rfl rfl ?_
        exact And.intro rfl rfl
    · have g := ne_of_beq_false g
      have hr : ramt w n2 = w := by rw [ramt, if_neg (by omega)]
      rw [hr]
      refine CallS.snap (rshift_runs 8 n w w hL (by omega) (by omega) hlt (by omega)) rfl (oB_flat _) ?_
      refine CallS.snap (to_bits (shiftN 8 n w (min w w)) w (LB_all _) (by omega) (by omega)) rfl rfl ?_
      exact And.intro rfl rfl
  have g8 := ne_of_beq_false g8
  refine br_intro (fun g9 => ?_) (fun g9 => ?_)
  · have g9 := eq_of_beq g9
    subst g9
    rw [if_pos (by omega)]
    refine br_intro (fun g => ?_) (fun g => ?_)
    · have g := eq_of_beq g
      refine br_intro (fun g' => ?_) (fun g' => ?_)
      · have g' := of_decide_eq_true g'
        rw [ewu] at g'
        have hr : ramt w n2 = n2 := by rw [ramt, if_pos (by omega)]
        have e : IntKind.i64.wrap ((n2 % 18446744073709551616 : Nat) : Int) = (n2 : Int) := by rw [i64_in _ (by omega)]; omega
        rw [hr]
        have hs := rshift_runs 9 n w n2 hL (by omega) (by omega) hlt (by omega)
        rw [← e] at hs
        refine CallS.snap hs rfl (oB_flat _) ?_
        refine CallS.snap (to_bits (shiftN 9 n w (min n2 w)) w (LB_all _) (by omega) (by omega)) rfl rfl ?_
        exact And.intro rfl rfl
      · have g' := of_decide_eq_false g'
        rw [ewu] at g'
        have hr : ramt w n2 = w := by rw [ramt, if_neg (by omega)]
        rw [hr]
        refine CallS.snap (rshift_runs 9 n w w hL (by omega) (by omega) hlt (by omega)) rfl (oB_flat _) ?_
        refine CallS.snap (to_bits (shiftN 9 n w (min w w)) w (LB_all _) (by omega) (by omega)) rfl rfl ?_
        exact And.intro rfl rfl
    · have g := ne_of_beq_false g
      have hr : ramt w n2 = w := by rw [ramt, if_neg (by omega)]
      rw [hr]
      refine CallS.snap (rshift_runs 9 n w w hL (by omega) (by omega) hlt (by omega)) rfl (oB_flat _) ?_
      refine CallS.snap (to_bits (shiftN 9 n w (min w w)) w (LB_all _) (by omega) (by omega)) rfl rfl ?_
      exact And.intro rfl rfl
  have g9 := ne_of_beq_false g9
  rw [if_neg (by omega)]
  refine br_intro (fun g17 => ?_) (fun g17 => ?_)
  · have g17 := eq_of_beq g17
    rw [if_pos g17]
    refine And.intro rfl (ck_intro (fits1 (n := (LB (bitsL n2 w2)).length + (((LB (bitsL n w)).drop 0).take (LB (bitsL n w)).length).length) (by rw [hL, hlen, hlen2]; omega)) ?_)
    have hLL : ((LB (bitsL n2 w2) ++ ((LB (bitsL n w)).drop 0).take (LB (bitsL n w)).length).drop 0).take ((LB (bitsL n2 w2)).length + (((LB (bitsL n w)).drop 0).take (LB (bitsL n w)).length).length) = LB (bitsL n2 w2 ++ bitsL n w) := by
      rw [hL, LB_append, ← List.length_append, List.drop_zero, List.take_length]
    rw [append_bits] at hLL
    by_cases hc : (w : Int) + w2 ≤ 128
    · rw [if_pos hc]
      refine CallS.snap (to_bits (n2 % 2 ^ w2 + 2 ^ w2 * n) (w2 + w) hLL (by omega) (by omega)) rfl rfl ?_
      exact And.intro rfl rfl
    · rw [if_neg hc]
      have ht := rto_runs hLL (by rw [bitsL_len]; omega)
      rw [btOf, bitsL_len, if_neg (by omega)] at ht
      refine CallS.snap ht rfl rfl ?_
      exact And.intro rfl rfl
  have g17 := ne_of_beq_false g17
  rw [if_neg g17]
  refine br_intro (fun gw => ?_) (fun gw => ?_)
  · have gw : ¬ (w : Int) = w2 := by simpa using gw
    rw [if_neg gw]
    exact And.intro rfl rfl
  have gw : (w : Int) = w2 := by simpa using gw
  have gw' : w = w2 := by omega
  subst gw'
  rw [if_pos rfl]
  refine br_intro (fun g1 => ?_) (fun g1 => ?_)
  · have g1 := eq_of_beq g1
    subst g1
    have e : rbinW 1 w n n2 = bt w ((n + n2 + 0) % 2 ^ w) := rfl
    rw [e]
    refine CallS.snap (radd_runs n n2 w 0 hL hL2 (by omega) false rfl) rfl (oB_flat _) ?_
    refine CallS.snap (to_bits (n + n2 + 0) w (LB_all _) (by omega) (by omega)) rfl rfl ?_
    exact And.intro rfl rfl
  have g1 := ne_of_beq_false g1
  refine br_intro (fun g2 => ?_) (fun g2 => ?_)
  · have g2 := eq_of_beq g2
    subst g2
    have e : rbinW 2 w n n2 = bt w ((n + compl n2 w + 1) % 2 ^ w) := rfl
    rw [e]
    refine CallS.snap (rnot_runs n2 w hL2 (by omega)) rfl (oB_flat _) ?_
    refine CallS.snap (radd_runs n (compl n2 w) w 1 hL (LB_all _) (by omega) true rfl) rfl (oB_flat _) ?_
    refine CallS.snap (to_bits (n + compl n2 w + 1) w (LB_all _) (by omega) (by omega)) rfl rfl ?_
    exact And.intro rfl rfl
  have g2 := ne_of_beq_false g2
  refine br_intro (fun g3 => ?_) (fun g3 => ?_)
  · have g3 := eq_of_beq g3
    subst g3
    have e : rbinW 3 w n n2 = bt w (n * n2 % 2 ^ w) := rfl
    rw [e]
    refine CallS.snap (rmul_runs n n2 w hL hL2 (by omega) hlt hlt2) rfl (oB_flat _) ?_
    refine CallS.snap (to_bits (n * n2) w (LB_all _) (by omega) (by omega)) rfl rfl ?_
    exact And.intro rfl rfl
  have g3 := ne_of_beq_false g3
  refine br_intro (fun g4 => ?_) (fun g4 => ?_)
  · have g4 := eq_of_beq g4
    subst g4
    have e : rbinW 4 w n n2 = bt w (bitN 4 n n2 % 2 ^ w) := rfl
    rw [e]
    refine CallS.snap (rbitwise_runs 4 n n2 w hL hL2 (by omega)) rfl (oB_flat _) ?_
    refine CallS.snap (to_bits (bitN 4 n n2) w (LB_all _) (by omega) (by omega)) rfl rfl ?_
    exact And.intro rfl rfl
  have g4 := ne_of_beq_false g4
  refine br_intro (fun g5 => ?_) (fun g5 => ?_)
  · have g5 := eq_of_beq g5
    subst g5
    have e : rbinW 5 w n n2 = bt w (bitN 5 n n2 % 2 ^ w) := rfl
    rw [e]
    refine CallS.snap (rbitwise_runs 5 n n2 w hL hL2 (by omega)) rfl (oB_flat _) ?_
    refine CallS.snap (to_bits (bitN 5 n n2) w (LB_all _) (by omega) (by omega)) rfl rfl ?_
    exact And.intro rfl rfl
  have g5 := ne_of_beq_false g5
  refine br_intro (fun g6 => ?_) (fun g6 => ?_)
  · have g6 := eq_of_beq g6
    subst g6
    have e : rbinW 6 w n n2 = bt w (bitN 6 n n2 % 2 ^ w) := rfl
    rw [e]
    refine CallS.snap (rbitwise_runs 6 n n2 w hL hL2 (by omega)) rfl (oB_flat _) ?_
    refine CallS.snap (to_bits (bitN 6 n n2) w (LB_all _) (by omega) (by omega)) rfl rfl ?_
    exact And.intro rfl rfl
  have g6 := ne_of_beq_false g6
  refine br_intro (fun g10 => ?_) (fun g10 => ?_)
  · have g10 := eq_of_beq g10
    subst g10
    have e : rbinW 10 w n n2 = bt w (rquo false n n2 w % 2 ^ w) := rfl
    rw [e]
    refine CallS.frz (rdivide_runs n n2 w false hL hL2 (by omega) (by omega) hlt hlt2) rfl ?_
    refine CallS.pure (to_bits (rquo false n n2 w) w rfl (by omega) (by omega)) rfl ?_
    exact And.intro rfl rfl
  have g10 := ne_of_beq_false g10
  refine br_intro (fun g11 => ?_) (fun g11 => ?_)
  · have g11 := eq_of_beq g11
    subst g11
    have e : rbinW 11 w n n2 = bt w (rrem false n n2 w % 2 ^ w) := rfl
    rw [e]
    refine CallS.frz (rdivide_runs n n2 w false hL hL2 (by omega) (by omega) hlt hlt2) rfl ?_
    refine CallS.pure (to_bits (rrem false n n2 w) w rfl (by omega) (by omega)) rfl ?_
    exact And.intro rfl rfl
  have g11 := ne_of_beq_false g11
  refine br_intro (fun g12 => ?_) (fun g12 => ?_)
  · have g12 := eq_of_beq g12
    subst g12
    have e : rbinW 12 w n n2 = bt w (rquo true n n2 w % 2 ^ w) := rfl
    rw [e]
    refine CallS.frz (rdivide_runs n n2 w true hL hL2 (by omega) (by omega) hlt hlt2) rfl ?_
    refine CallS.pure (to_bits (rquo true n n2 w) w rfl (by omega) (by omega)) rfl ?_
    exact And.intro rfl rfl
  have g12 := ne_of_beq_false g12
  refine br_intro (fun g13 => ?_) (fun g13 => ?_)
  · have g13 := eq_of_beq g13
    subst g13
    have e : rbinW 13 w n n2 = bt w (rrem true n n2 w % 2 ^ w) := rfl
    rw [e]
    refine CallS.frz (rdivide_runs n n2 w true hL hL2 (by omega) (by omega) hlt hlt2) rfl ?_
    refine CallS.pure (to_bits (rrem true n n2 w) w rfl (by omega) (by omega)) rfl ?_
    exact And.intro rfl rfl
  have g13 := ne_of_beq_false g13
  refine br_intro (fun g14 => ?_) (fun g14 => ?_)
  · have g14 := eq_of_beq g14
    subst g14
    have e : rbinW 14 w n n2 = bt 1 (if decide (n = n2) then 1 else 0) := rfl
    rw [e]
    refine And.intro eq25 ?_
    have ht := rtruth_runs (decide (n = n2))
    rw [← eqBw w n n2 hn hn2] at ht ⊢
    refine CallS.snap ht rfl (btI_flat _ _) ?_
    exact And.intro rfl rfl
  have g14 := ne_of_beq_false g14
  refine br_intro (fun g15 => ?_) (fun g15 => ?_)
  · have g15 := eq_of_beq g15
    subst g15
    have e : rbinW 15 w n n2 = bt 1 (if decide (n < n2) then 1 else 0) := rfl
    rw [e]
    refine CallS.snap (rless_runs n n2 w hL hL2 (by omega) hlt hlt2) rfl rfl ?_
    refine CallS.snap (rtruth_runs (decide (n < n2))) rfl (btI_flat _ _) ?_
    exact And.intro rfl rfl
  have g15 := ne_of_beq_false g15
  refine br_intro (fun g16 => ?_) (fun g16 => ?_)
  · have g16 := eq_of_beq g16
    subst g16
    have e : rbinW 16 w n n2 = bt 1 (if rlts n n2 w then 1 else 0) := rfl
    rw [e]
    have sa := sign_runs n w hL (by omega) (by omega : w ≤ 1000)
    have sb := sign_runs n2 w hL2 (by omega) (by omega : w ≤ 1000)
    have hl := rless_runs n n2 w hL hL2 (by omega) hlt hlt2
    cases ha : n.testBit (w - 1) <;> cases hb : n2.testBit (w - 1) <;> rw [ha] at sa <;> rw [hb] at sb
    · have er : rlts n n2 w = decide (n < n2) := by simp [rlts, ha, hb]
      rw [er]
      refine CallS.snap sa rfl rfl ?_
      refine CallS.snap sb rfl rfl ?_
      refine CallS.snap sa rfl rfl ?_
      refine CallS.snap sb rfl rfl ?_
      refine CallS.snap hl rfl rfl ?_
      refine CallS.snap (rtruth_runs (decide (n < n2))) rfl (btI_flat _ _) ?_
      exact And.intro rfl rfl
    · have er : rlts n n2 w = false := by simp [rlts, ha, hb]
      rw [er]
      refine CallS.snap sa rfl rfl ?_
      refine CallS.snap sb rfl rfl ?_
      refine CallS.snap sa rfl rfl ?_
      refine CallS.snap sa rfl rfl ?_
      refine CallS.snap sb rfl rfl ?_
      refine CallS.snap (rtruth_runs (false)) rfl (btI_flat _ _) ?_
      exact And.intro rfl rfl
    · have er : rlts n n2 w = true := by simp [rlts, ha, hb]
      rw [er]
      refine CallS.snap sa rfl rfl ?_
      refine CallS.snap sb rfl rfl ?_
      refine CallS.snap sa rfl rfl ?_
      refine CallS.snap (rtruth_runs (true)) rfl (btI_flat _ _) ?_
      exact And.intro rfl rfl
    · have er : rlts n n2 w = decide (n < n2) := by simp [rlts, ha, hb]
      rw [er]
      refine CallS.snap sa rfl rfl ?_
      refine CallS.snap sb rfl rfl ?_
      refine CallS.snap sa rfl rfl ?_
      refine CallS.snap sb rfl rfl ?_
      refine CallS.snap hl rfl rfl ?_
      refine CallS.snap (rtruth_runs (decide (n < n2))) rfl (btI_flat _ _) ?_
      exact And.intro rfl rfl
  have g16 := ne_of_beq_false g16
  have e : rbinW op w n n2 = bt 0 0 := by
    rw [rbinW, if_neg g1, if_neg g2, if_neg g3, if_neg (by omega), if_neg g10, if_neg g11, if_neg g12, if_neg g13, if_neg g14, if_neg g15, if_neg g16]
  rw [e]
  exact And.intro rfl rfl

end Go.Proofs.Ytkjhkcpgkccocaa
