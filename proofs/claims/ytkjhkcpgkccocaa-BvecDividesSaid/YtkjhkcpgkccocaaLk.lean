/-
  The document's answer on bits: the signed value; bits put in.
-/
import Derived.Test.YtkjhkcpgkccocaaLj
import Derived.Test.YtkjhkcpgkccocaaBva
namespace Go.Proofs.Ytkjhkcpgkccocaa
open Go.IntWalk
set_option maxRecDepth 100000
set_option linter.unusedVariables false
set_option linter.unusedSimpArgs false

theorem top_bit {w n : Nat} (hw : 1 ≤ w) (hw2 : w ≤ 128) (h : n < 2 ^ w) : n.testBit (w - 1) = decide (2 ^ (w - 1) ≤ n) := by
  have := top_iff (w := (w : Int)) (n := n) ⟨by omega, by rw [Int.toNat_natCast]; exact h⟩
  rw [show ((w : Int) - 1).toNat = w - 1 by omega] at this
  rw [bit_eq, decide_eq_decide, this]

theorem zeros_iff {w n m : Nat} (h : n < 2 ^ w) : (∀ i, m ≤ i → i < w → n.testBit i = false) ↔ n < 2 ^ m := by
  constructor
  · intro hh
    apply Nat.lt_pow_two_of_testBit
    intro i hi
    by_cases h2 : i < w
    · exact hh i hi h2
    · exact Nat.testBit_lt_two_pow (Nat.lt_of_lt_of_le h (Nat.pow_le_pow_right (by omega) (by omega)))
  · intro hh i hi _
    exact Nat.testBit_lt_two_pow (Nat.lt_of_lt_of_le hh (Nat.pow_le_pow_right (by omega) hi))

theorem ones_iff {w n m : Nat} (h : n < 2 ^ w) : (∀ i, m ≤ i → i < w → n.testBit i = true) ↔ 2 ^ w - (n + 1) < 2 ^ m := by
  have hp : 2 ^ w - (n + 1) < 2 ^ w := by omega
  rw [← zeros_iff hp]
  constructor
  · intro hh i h1 h2
    rw [Nat.testBit_two_pow_sub_succ h, hh i h1 h2]; simp
  · intro hh i h1 h2
    have := hh i h1 h2
    rw [Nat.testBit_two_pow_sub_succ h] at this
    simpa [h2] using this

theorem sval_nat (w n : Nat) : sval (w : Int) n = if 2 ^ (w - 1) ≤ n then (n : Int) - ((2 ^ w : Nat) : Int) else n := by
  rw [sval, show ((w : Int) - 1).toNat = w - 1 by omega, Int.toNat_natCast]
  simp

theorem int_fits {w n : Nat} (hw : 1 ≤ w) (hw2 : w ≤ 128) (h : n < 2 ^ w) : (∀ i, 64 ≤ i → i < w → n.testBit i = n.testBit 63) ↔ -9223372036854775808 ≤ sval (w : Int) n ∧ sval (w : Int) n < 9223372036854775808 := by
  have hp := pow_half (w := (w : Int)) (by omega)
  rw [show ((w : Int) - 1).toNat = w - 1 by omega, Int.toNat_natCast] at hp
  rw [sval_nat]
  by_cases hs : w ≤ 64
  · have h64 : (2 : Nat) ^ (w - 1) ≤ 2 ^ 63 := Nat.pow_le_pow_right (by omega) (by omega)
    constructor
    · intro _
      split <;> omega
    · intro _ i h1 h2; omega
  · have h64 : (2 : Nat) ^ 64 ≤ 2 ^ (w - 1) := Nat.pow_le_pow_right (by omega) (by omega)
    constructor
    · intro hh
      have ht : n.testBit (w - 1) = n.testBit 63 := hh _ (by omega) (by omega)
      rw [top_bit hw hw2 h] at ht
      cases hb : n.testBit 63
      · rw [hb] at ht
        have ht := of_decide_eq_false ht
        rw [if_neg ht]
        have := (zeros_iff (m := 63) h).1 (fun i h1 h2 => by
          by_cases e : i = 63
          · rw [e, hb]
          · rw [hh i (by omega) h2, hb])
        omega
      · rw [hb] at ht
        have ht := of_decide_eq_true ht
        rw [if_pos ht]
        have := (ones_iff (m := 63) h).1 (fun i h1 h2 => by
          by_cases e : i = 63
          · rw [e, hb]
          · rw [hh i (by omega) h2, hb])
        omega
    · intro hh i h1 h2
      by_cases ht : 2 ^ (w - 1) ≤ n
      · rw [if_pos ht] at hh
        have := (ones_iff (m := 63) h).2 (by omega)
        rw [this i (by omega) h2, this 63 (by omega) (by omega)]
      · rw [if_neg ht] at hh
        have := (zeros_iff (m := 63) h).2 (by omega)
        rw [this i (by omega) h2, this 63 (by omega) (by omega)]

theorem int_val {w n : Nat} (hw : 1 ≤ w) (hw2 : w ≤ 128) (h : n < 2 ^ w) (hs : -9223372036854775808 ≤ sval (w : Int) n ∧ sval (w : Int) n < 9223372036854775808) :
    IntKind.i64.wrap ((fillN n w 64 (n.testBit (w - 1)) % 2 ^ 64 % 18446744073709551616 : Nat) : Int) = sval (w : Int) n := by
  have hp := pow_half (w := (w : Int)) (by omega)
  rw [show ((w : Int) - 1).toNat = w - 1 by omega, Int.toNat_natCast] at hp
  rw [IntKind.wrap_i64]
  rw [sval_nat] at *
  rw [top_bit hw hw2 h, fillN]
  by_cases ht : 2 ^ (w - 1) ≤ n
  · rw [if_pos ht] at *
    rw [if_pos (decide_eq_true ht), Nat.mod_eq_of_lt h]
    omega
  · rw [if_neg ht] at *
    rw [if_neg (by simpa using ht)]
    omega

def intS (w : Nat) (n k : Nat) : St := ⟨[(4, slOf 1 (bitsL n w)), (5, .t (.int .i64 k))], [.box (bc w n), arrOf (bitsL n w)]⟩

theorem rint_runs (w : Int) (n : Nat) (hn : n < 2 ^ 128) : Runs Try.prog 34 [bt w n] (intR w n) := by
  refine Runs.of_call ?_ (by unfold intR; split <;> rfl)
  refine CallS.of_fn tab_ok reg_ok Try.func34 rfl rfl ?_
  refine CallS.snap (rnormal_runs w n hn) rfl rfl ?_
  refine br_intro (fun h => ?_) (fun h => ?_)
  · have h : ¬ isN w n := by simpa using h
    rw [intR, if_neg (fun hh => h hh.1)]
    exact And.intro ⟨rfl, rfl, trivial⟩ rfl
  have h : isN w n := by simpa using h
  have hw := h.1
  obtain ⟨w, rfl⟩ := Int.eq_ofNat_of_zero_le (show 0 ≤ w by omega)
  have hlt : n < 2 ^ w := h.2
  have hlen : (LB (bitsL n w)).length = w := LBb_len _ _
  refine CallS.snap (rof_runs (w : Int) n hn (by omega) (by omega)) rfl (oB_flat _) ?_
  refine loop_on (fun k : Nat => 64 ≤ k ∧ (k = 64 ∨ k ≤ w) ∧ ∀ i, 64 ≤ i → i < k → i < w → n.testBit i = n.testBit 63) (intS w n) (fun k => w - k) 64 ⟨by omega, by omega, fun i h1 h2 => by omega⟩ (weak_of ⟨rfl, rfl, trivial⟩ rfl) (fun k hk => ?_)
  obtain ⟨hk1, hk2, hz⟩ := hk
  refine br_intro (fun h3 => ?_) (fun h3 => ?_)
  · have h3 := of_decide_eq_true h3
    rw [hlen] at h3
    refine draw_intro [(0, false), (1, false), (2, false), (3, false), (4, false), (5, false), (6, false), (7, false)] (by decide +kernel) ?_
    refine ck_intro ?_ (opt_intro (a := .bool (n.testBit k)) ?_ ?_)
    · show (Nat.beq 0 0 && Nat.beq 1 1 && inB (k : Int) (LB (bitsL n w)).length) = true
      rw [hlen]; simp [inB]; omega
    · show (LB (bitsL n w))[0 + (k : Int).toNat]? = _
      rw [Int.toNat_natCast, Nat.zero_add]; exact LBb_get n w k (by omega)
    refine ck_intro ?_ (opt_intro (a := .bool (n.testBit 63)) ?_ ?_)
    · show (Nat.beq 0 0 && Nat.beq 1 1 && inB 63 (LB (bitsL n w)).length) = true
      rw [hlen]; simp [inB]; omega
    · exact LBb_get n w 63 (by omega)
    refine br_intro (fun h4 => ?_) (fun h4 => ?_)
    · have h4 : ¬ n.testBit k = n.testBit 63 := by simpa using h4
      rw [intR, if_neg (fun hh => h4 ((int_fits (by omega) (by omega) hlt).2 hh.2 k hk1 (by omega)))]
      exact And.intro ⟨rfl, rfl, trivial⟩ rfl
    · have h4 : n.testBit k = n.testBit 63 := by simpa using h4
      refine ⟨⟨k + 1, by omega, by omega, fun i h1 h2 h5 => ?_⟩, weak_of ⟨rfl, congrArg (fun x => AV.t (.int .i64 x)) (i64_in _ (by omega)), trivial⟩ rfl, by show w - (k + 1) < w - k; omega⟩
      by_cases e : i = k
      · rw [e, h4]
      · exact hz i h1 (by omega) h5
  · have h3 := of_decide_eq_false h3
    rw [hlen] at h3
    have hf := (int_fits (by omega) (by omega) hlt).1 (fun i h1 h2 => hz i h1 (by omega) h2)
    rw [intR, if_pos ⟨h, hf⟩]
    have hL := LB_all (bitsL n w)
    refine CallS.snap (sign_runs n w hL (by omega) (by omega)) rfl rfl ?_
    refine CallS.snap (cut_any n w 64 (n.testBit (w - 1)) hL hlt (by omega) (by omega)) rfl (oB_flat _) ?_
    refine CallS.snap (to_bits (fillN n w 64 (n.testBit (w - 1))) 64 (LB_all (bitsL _ 64)) (by omega) (by omega)) rfl rfl ?_
    refine And.intro ⟨?_, rfl, trivial⟩ rfl
    exact congrArg (fun x => some (T.int .i64 x)) (int_val (by omega) (by omega) hlt hf)

/-- Bits put into others: bit by bit. -/
def insB (w : Nat) (n : Nat) (lo k : Nat) (n2 : Nat) : List Bool := (List.range w).map fun i => if lo ≤ i ∧ i < lo + k then n2.testBit (i - lo) else n.testBit i

theorem insB_len (w n lo k n2 : Nat) : (insB w n lo k n2).length = w := by simp [insB]
theorem insB_get (w n lo k n2 i : Nat) : (insB w n lo k n2)[i]? = if i < w then some (if lo ≤ i ∧ i < lo + k then n2.testBit (i - lo) else n.testBit i) else none := by
  simp only [insB, List.getElem?_map]
  by_cases h : i < w
  · rw [if_pos h, List.getElem?_range h]; rfl
  · rw [if_neg h, List.getElem?_eq_none (by simp; omega)]; rfl

theorem insB_zero (w n lo n2 : Nat) : insB w n lo 0 n2 = bitsL n w := by
  apply List.ext_getElem?
  intro i
  rw [insB_get, bitsL_get]
  by_cases h : i < w
  · rw [if_pos h, if_pos h, if_neg (by omega)]
  · rw [if_neg h, if_neg h]

theorem insB_set {w n lo k n2 : Nat} (h : lo + k < w) : (LB (insB w n lo k n2)).set (lo + k) (.bool (n2.testBit k)) = LB (insB w n lo (k + 1) n2) := by
  apply List.ext_getElem?
  intro i
  have hg : ∀ k', (LB (insB w n lo k' n2))[i]? = if i < w then some (T.bool (if lo ≤ i ∧ i < lo + k' then n2.testBit (i - lo) else n.testBit i)) else none := fun k' => by
    simp only [LB, List.getElem?_map, insB_get]
    split <;> rfl
  by_cases e : i = lo + k
  · subst e
    rw [List.getElem?_set_self (by rw [LB_len, insB_len]; exact h), hg, if_pos h, if_pos (by omega), Nat.add_sub_cancel_left]
  · rw [List.getElem?_set_ne (fun h => e h.symm), hg, hg]
    by_cases hi : i < w
    · rw [if_pos hi, if_pos hi]
      by_cases h2 : lo ≤ i ∧ i < lo + k
      · rw [if_pos h2, if_pos (by omega)]
      · rw [if_neg h2, if_neg (by omega)]
    · rw [if_neg hi, if_neg hi]

theorem to_len {L : List T} {l : List Bool} (w : Nat) (h : L = LB l) (hl : l.length = w) (hw : 1 ≤ w) (hw2 : w ≤ 128) : Runs Try.prog 54 [.vec 1 L] (.t (bt w (ofL l))) := by
  have := rto_runs h (by omega)
  rw [btOf, hl, if_pos ⟨hw, hw2⟩] at this
  exact this

def rinsT (w : Int) (n : Nat) (lo : Int) (w2 : Int) (n2 : Nat) : T :=
  if isN w n ∧ isN w2 n2 ∧ 0 ≤ lo ∧ lo ≤ w - w2 then bt w (ofL (insB w.toNat n lo.toNat w2.toNat n2)) else bt 0 0

def insS (w n lo w2 n2 k : Nat) : St :=
  ⟨[(1, .t (.int .i64 (lo : Int))), (6, .ptr 2 0 0 0), (7, slOf 3 (insB w n lo k n2)), (35, slOf 4 (bitsL n2 w2)), (36, .t (.int .i64 w2)), (37, .t (.int .i64 k))],
   [.box (bc w n), .box (bc w2 n2), .box (bc 0 0), arrOf (insB w n lo k n2), arrOf (bitsL n2 w2)]⟩

theorem rinsert_runs (w : Int) (n : Nat) (lo : Int) (w2 : Int) (n2 : Nat) (hn : n < 2 ^ 128) (hn2 : n2 < 2 ^ 128) : Runs Try.prog 21 [bt w n, .int .i64 lo, bt w2 n2] (.t (rinsT w n lo w2 n2)) := by
  refine Runs.of_call ?_ rfl
  refine CallS.of_fn tab_ok reg_ok Try.func21 rfl rfl ?_
  refine CallS.snap (rnormal_runs w n hn) rfl rfl ?_
  have bad : ¬ (isN w n ∧ isN w2 n2 ∧ 0 ≤ lo ∧ lo ≤ w - w2) → rinsT w n lo w2 n2 = bt 0 0 := fun h => by rw [rinsT, if_neg h]
  refine br_intro (fun h => ?_) (fun h => ?_)
  · have h : ¬ isN w n := by simpa using h
    rw [bad (fun hh => h hh.1)]
    exact And.intro rfl rfl
  have h : isN w n := by simpa using h
  refine CallS.snap (rnormal_runs w2 n2 hn2) rfl rfl ?_
  refine br_intro (fun h1 => ?_) (fun h1 => ?_)
  · have h1 : ¬ isN w2 n2 := by simpa using h1
    rw [bad (fun hh => h1 hh.2.1)]
    exact And.intro rfl rfl
  have h1 : isN w2 n2 := by simpa using h1
  have hw := h.1
  have hw2 := h1.1
  refine br_intro (fun h2 => ?_) (fun h2 => ?_)
  · have h2 := of_decide_eq_true h2
    rw [bad (fun hh => by omega)]
    exact And.intro rfl rfl
  have h2 := of_decide_eq_false h2
  refine br_intro (fun h3 => ?_) (fun h3 => ?_)
  · have h3 := of_decide_eq_true h3
    rw [i64_in _ (by omega)] at h3
    rw [bad (fun hh => by omega)]
    exact And.intro rfl rfl
  have h3 := of_decide_eq_false h3
  rw [i64_in _ (by omega)] at h3
  obtain ⟨lo, rfl⟩ := Int.eq_ofNat_of_zero_le (show 0 ≤ lo by omega)
  obtain ⟨w, rfl⟩ := Int.eq_ofNat_of_zero_le (show 0 ≤ w by omega)
  obtain ⟨w2, rfl⟩ := Int.eq_ofNat_of_zero_le (show 0 ≤ w2 by omega)
  rw [rinsT, if_pos ⟨h, h1, by omega, by omega⟩, Int.toNat_natCast, Int.toNat_natCast, Int.toNat_natCast]
  refine CallS.snap (rof_runs (w : Int) n hn (by omega) (by omega)) rfl (oB_flat _) ?_
  refine CallS.snap (rof_runs (w2 : Int) n2 hn2 (by omega) (by omega)) rfl (oB_flat _) ?_
  have hl2 : (LB (bitsL n2 w2)).length = w2 := LBb_len _ _
  have e0 := insB_zero w n lo n2
  refine loop_on (fun k : Nat => k ≤ w2) (insS w n lo w2 n2) (fun k => w2 - k) 0 (by omega) (weak_of ⟨rfl, rfl, congrArg (slOf 3) e0.symm, rfl, congrArg (fun n : Nat => AV.t (.int .i64 n)) hl2, rfl, trivial⟩ (by show _ = [_, _, _, arrOf (insB w n lo 0 n2), _]; rw [e0]; rfl)) (fun k hk => ?_)
  refine br_intro (fun h4 => ?_) (fun h4 => ?_)
  · have h4 := of_decide_eq_true h4
    have e1 : IntKind.i64.wrap ((lo : Int) + (k : Int)) = ((lo + k : Nat) : Int) := by rw [i64_in _ (by omega)]; rfl
    have hli : (LB (insB w n lo k n2)).length = w := by rw [LB_len, insB_len]
    have hold : ∃ old, (LB (insB w n lo k n2))[0 + (IntKind.i64.wrap ((lo : Int) + (k : Int))).toNat]? = some (.bool old) := by
      rw [e1, Int.toNat_natCast, Nat.zero_add]
      simp only [LB, List.getElem?_map, insB_get, if_pos (show lo + k < w by omega)]
      exact ⟨_, rfl⟩
    obtain ⟨old, hold⟩ := hold
    refine ck_intro ?_ (opt_intro (a := .bool (n2.testBit k)) ?_ ?_)
    · show (Nat.beq 0 0 && Nat.beq 1 1 && inB (k : Int) (LB (bitsL n2 w2)).length) = true
      rw [hl2]; simp [inB]; omega
    · show (LB (bitsL n2 w2))[0 + (k : Int).toNat]? = _
      rw [Int.toNat_natCast, Nat.zero_add]; exact LBb_get n2 w2 k (by omega)
    refine ck_intro ?_ (opt_intro hold ?_)
    · show (Nat.beq 0 0 && Nat.beq 1 1 && inB (IntKind.i64.wrap ((lo : Int) + (k : Int))) (LB (insB w n lo k n2)).length) = true
      rw [hli, e1]; simp [inB]; omega
    have hset : (LB (insB w n lo k n2)).set (0 + (IntKind.i64.wrap ((lo : Int) + (k : Int))).toNat) (.bool (n2.testBit k)) = LB (insB w n lo (k + 1) n2) := by
      rw [e1, Int.toNat_natCast, Nat.zero_add]; exact insB_set (by omega)
    have hsl : some (slOf 3 (insB w n lo k n2)) = some (slOf 3 (insB w n lo (k + 1) n2)) := by rw [slOf, slOf, hli, LB_len, insB_len]
    refine ⟨⟨k + 1, by omega⟩, weak_gc [0, 1, 2, 3, 4] rfl ⟨rfl, rfl, hsl, rfl, rfl, congrArg (fun x => some (AV.t (.int .i64 x))) (i64_in _ (by omega)), trivial⟩ ⟨rfl, rfl, rfl, some_arr hset, rfl, trivial⟩, by show w2 - (k + 1) < w2 - k; omega⟩
  · have h4 := of_decide_eq_false h4
    have hk : k = w2 := by omega
    subst hk
    refine CallS.snap (to_len w (LB_all (insB w n lo k n2)) (insB_len _ _ _ _ _) (by omega) (by omega)) rfl rfl ?_
    exact And.intro rfl rfl

end Go.Proofs.Ytkjhkcpgkccocaa
