/-
  The document's answer on bits: numbers, widths, parts, operations on one, bit by bit, shifts.
-/
import Derived.Test.YtkjhkcpgkccocaaLe
namespace Go.Proofs.Ytkjhkcpgkccocaa
open Go.IntWalk
set_option maxRecDepth 100000
set_option linter.unusedVariables false
set_option linter.unusedSimpArgs false

theorem cut_fill {L : List T} (x w v : Nat) (h : L = LB (bitsL x w)) (hw : w ≤ 1000) (hv : v ≤ 1000) : Runs Try.prog 71 [.vec 1 L, .int .i64 (v : Int), .bool true] (oB (bitsL (x % 2 ^ w + 2 ^ w * (2 ^ v - 1)) v)) := by
  have := cut_runs (.vec _ L h) (by rw [bitsL_len]; exact hw) (v : Int) (by omega) (by omega) true
  rw [Int.toNat_natCast, cut_ones] at this
  exact this

/-- Filled up with a bit. -/
def fillN (x w v : Nat) (f : Bool) : Nat := if f then x % 2 ^ w + 2 ^ w * (2 ^ v - 1) else x

theorem cut_any {L : List T} (x w v : Nat) (f : Bool) (h : L = LB (bitsL x w)) (hx : x < 2 ^ w) (hw : w ≤ 1000) (hv : v ≤ 1000) : Runs Try.prog 71 [.vec 1 L, .int .i64 (v : Int), .bool f] (oB (bitsL (fillN x w v f) v)) := by
  cases f
  · exact cut_to x w v h hx hw hv
  · exact cut_fill x w v h hw hv

def rfromT (w n : Int) : T := if 1 ≤ w ∧ w ≤ 128 then bt w (fillN (n % 18446744073709551616).toNat 64 w.toNat (decide (n < 0)) % 2 ^ w.toNat) else bt 0 0

theorem rfrom_runs (w n : Int) (hn : -9223372036854775808 ≤ n ∧ n ≤ 9223372036854775807) : Runs Try.prog 36 [.int .i64 w, .int .i64 n] (.t (rfromT w n)) := by
  refine Runs.of_call ?_ rfl
  refine CallS.of_fn tab_ok reg_ok Try.func36 rfl rfl ?_
  refine br_intro (fun h => ?_) (fun h => br_intro (fun h2 => ?_) (fun h2 => ?_))
  · have h := of_decide_eq_true h
    rw [rfromT, if_neg (by omega)]
    exact And.intro rfl rfl
  · have h2 := of_decide_eq_true h2
    rw [rfromT, if_neg (by omega)]
    exact And.intro rfl rfl
  have h := of_decide_eq_false h
  have h2 := of_decide_eq_false h2
  obtain ⟨v, rfl⟩ := Int.eq_ofNat_of_zero_le (show 0 ≤ w by omega)
  rw [rfromT, if_pos (by omega), Int.toNat_natCast]
  have hm : (n % 18446744073709551616).toNat < 2 ^ 64 := by omega
  have hof := rof_runs 64 (n % 18446744073709551616).toNat (by omega) (by omega) (by omega)
  have e : bt 64 (n % 18446744073709551616).toNat = .agg [.int .i64 64, .int .u64 0, .int .u64 (IntKind.u64.wrap n)] := by
    have h1 : (((n % 18446744073709551616).toNat / 18446744073709551616 : Nat) : Int) = 0 := by omega
    have h2 : (((n % 18446744073709551616).toNat % 18446744073709551616 : Nat) : Int) = IntKind.u64.wrap n := by rw [IntKind.wrap_u64]; omega
    rw [bt, h1, h2]
  rw [e] at hof
  refine CallS.snap hof rfl (oB_flat _) ?_
  refine CallS.snap (cut_any (n % 18446744073709551616).toNat 64 v (decide (n < 0)) (LB_all (bitsL (n % 18446744073709551616).toNat 64)) hm (by omega) (by omega)) rfl (oB_flat _) ?_
  refine CallS.snap (to_bits (fillN (n % 18446744073709551616).toNat 64 v (decide (n < 0))) v (LB_all (bitsL _ v)) (by omega) (by omega)) rfl rfl ?_
  exact And.intro rfl rfl

def rextT (w : Int) (n : Nat) (v : Int) (s : Bool) : T :=
  if isN w n ∧ 1 ≤ v ∧ v ≤ 128 then bt v (fillN n w.toNat v.toNat (s && n.testBit (w.toNat - 1)) % 2 ^ v.toNat) else bt 0 0

theorem rext_runs (w : Int) (n : Nat) (v : Int) (s : Bool) (hn : n < 2 ^ 128) : Runs Try.prog 37 [bt w n, .int .i64 v, .bool s] (.t (rextT w n v s)) := by
  refine Runs.of_call ?_ rfl
  refine CallS.of_fn tab_ok reg_ok Try.func37 rfl rfl ?_
  refine CallS.snap (rnormal_runs w n hn) rfl rfl ?_
  have bad : ¬ (isN w n ∧ 1 ≤ v ∧ v ≤ 128) → rextT w n v s = bt 0 0 := fun h => by rw [rextT, if_neg h]
  refine br_intro (fun h => ?_) (fun h => ?_)
  · have h : ¬ isN w n := by simpa using h
    rw [bad (fun hh => h hh.1)]
    exact And.intro rfl rfl
  have h : isN w n := by simpa using h
  refine br_intro (fun h2 => ?_) (fun h2 => ?_)
  · have h2 := of_decide_eq_true h2
    rw [bad (by omega)]
    exact And.intro rfl rfl
  have h2 := of_decide_eq_false h2
  refine br_intro (fun h3 => ?_) (fun h3 => ?_)
  · have h3 := of_decide_eq_true h3
    rw [bad (by omega)]
    exact And.intro rfl rfl
  have h3 := of_decide_eq_false h3
  have hw := h.1
  obtain ⟨v, rfl⟩ := Int.eq_ofNat_of_zero_le (show 0 ≤ v by omega)
  rw [rextT, if_pos ⟨h, by omega, by omega⟩, Int.toNat_natCast]
  refine CallS.snap (rof_runs w n hn (by omega) (by omega)) rfl (oB_flat _) ?_
  have hL := LB_all (bitsL n w.toNat)
  have fin : ∀ f, Runs Try.prog 71 [.vec 1 (((LB (bitsL n w.toNat)).drop 0).take (LB (bitsL n w.toNat)).length), .int .i64 (v : Int), .bool f] (oB (bitsL (fillN n w.toNat v f) v)) := fun f => cut_any n w.toNat v f hL h.2 (by omega) (by omega)
  refine br_intro (fun hs => ?_) (fun hs => ?_)
  · subst hs
    refine CallS.snap (sign_runs n w.toNat hL (by omega) (by omega)) rfl rfl ?_
    refine CallS.snap (fin (n.testBit (w.toNat - 1))) rfl (oB_flat _) ?_
    refine CallS.snap (to_bits (fillN n w.toNat v (n.testBit (w.toNat - 1))) v (LB_all (bitsL _ v)) (by omega) (by omega)) rfl rfl ?_
    exact And.intro rfl rfl
  · subst hs
    refine CallS.snap (fin false) rfl (oB_flat _) ?_
    refine CallS.snap (to_bits (fillN n w.toNat v false) v (LB_all (bitsL _ v)) (by omega) (by omega)) rfl rfl ?_
    exact And.intro rfl rfl

theorem part_bits (x w lo k : Nat) (h : lo + k ≤ w) : ((LB (bitsL x w)).drop lo).take k = LB (bitsL (x / 2 ^ lo) k) := by
  simp only [LB, ← List.map_drop, ← List.map_take]
  congr 1
  apply List.ext_getElem?
  intro i
  rw [List.getElem?_take, bitsL_get, List.getElem?_drop, bitsL_get]
  by_cases h1 : i < k
  · rw [if_pos h1, if_pos h1, if_pos (by omega), tb_div]
  · rw [if_neg h1, if_neg h1]

def rpartT (w : Int) (n : Nat) (hi lo : Int) : T := if isN w n ∧ 0 ≤ lo ∧ lo ≤ hi ∧ hi < w then bt (hi - lo + 1) (n / 2 ^ lo.toNat % 2 ^ (hi - lo + 1).toNat) else bt 0 0

theorem rextract_runs (w : Int) (n : Nat) (hi lo : Int) (hn : n < 2 ^ 128) : Runs Try.prog 19 [bt w n, .int .i64 hi, .int .i64 lo] (.t (rpartT w n hi lo)) := by
  refine Runs.of_call ?_ rfl
  refine CallS.of_fn tab_ok reg_ok Try.func19 rfl rfl ?_
  refine CallS.snap (rnormal_runs w n hn) rfl rfl ?_
  have bad : ¬ (isN w n ∧ 0 ≤ lo ∧ lo ≤ hi ∧ hi < w) → rpartT w n hi lo = bt 0 0 := fun h => by rw [rpartT, if_neg h]
  refine br_intro (fun h => ?_) (fun h => ?_)
  · have h : ¬ isN w n := by simpa using h
    rw [bad (fun hh => h hh.1)]
    exact And.intro rfl rfl
  have h : isN w n := by simpa using h
  refine br_intro (fun h2 => ?_) (fun h2 => ?_)
  · have h2 := of_decide_eq_true h2
    rw [bad (fun hh => by omega)]
    exact And.intro rfl rfl
  have h2 := of_decide_eq_false h2
  refine br_intro (fun h3 => ?_) (fun h3 => ?_)
  · have h3 := of_decide_eq_true h3
    rw [bad (fun hh => by omega)]
    exact And.intro rfl rfl
  have h3 := of_decide_eq_false h3
  refine br_intro (fun h4 => ?_) (fun h4 => ?_)
  · have h4 := of_decide_eq_true h4
    rw [bad (fun hh => by omega)]
    exact And.intro rfl rfl
  have h4 := of_decide_eq_false h4
  have hw := h.1
  obtain ⟨lo, rfl⟩ := Int.eq_ofNat_of_zero_le (show 0 ≤ lo by omega)
  obtain ⟨k, rfl⟩ : ∃ k : Nat, hi = lo + k := ⟨(hi - lo).toNat, by omega⟩
  rw [rpartT, if_pos ⟨h, by omega, by omega, by omega⟩, show (lo : Int) + k - lo + 1 = ((k + 1 : Nat) : Int) by omega, Int.toNat_natCast, Int.toNat_natCast]
  refine CallS.snap (rof_runs w n hn (by omega) (by omega)) rfl (oB_flat _) ?_
  have e1 : IntKind.i64.wrap ((lo : Int) + (k : Int) + 1) = ((lo + (k + 1) : Nat) : Int) := by rw [i64_in _ (by omega)]; omega
  have hlen : (LB (bitsL n w.toNat)).length = w.toNat := LBb_len _ _
  refine ck_intro ?_ (ck_intro ?_ ?_)
  · rw [e1, hlen]; simp; omega
  · rw [e1]; simp; omega
  have hp := part_bits n w.toNat lo (k + 1) (by omega)
  have hL : ((LB (bitsL n w.toNat)).drop (0 + ((lo : Nat) : Int).toNat)).take ((IntKind.i64.wrap ((lo : Int) + (k : Int) + 1)).toNat - ((lo : Nat) : Int).toNat) = LB (bitsL (n / 2 ^ lo) (k + 1)) := by
    rw [e1, Int.toNat_natCast, Int.toNat_natCast, Nat.zero_add, Nat.add_sub_cancel_left]; exact hp
  refine CallS.snap (to_bits (n / 2 ^ lo) (k + 1) hL (by omega) (by omega)) rfl rfl ?_
  exact And.intro rfl rfl

def runT (op : Int) (w : Int) (n : Nat) : T :=
  if isN w n then (if op = 18 then bt w (compl n w.toNat % 2 ^ w.toNat) else if op = 19 then bt w (negW n w.toNat % 2 ^ w.toNat) else bt 0 0) else bt 0 0

theorem run_runs (op : Int) (w : Int) (n : Nat) (hn : n < 2 ^ 128) : Runs Try.prog 23 [.int .i64 op, bt w n] (.t (runT op w n)) := by
  refine Runs.of_call ?_ rfl
  refine CallS.of_fn tab_ok reg_ok Try.func23 rfl rfl ?_
  refine CallS.snap (rnormal_runs w n hn) rfl rfl ?_
  refine br_intro (fun h => ?_) (fun h => ?_)
  · have h : ¬ isN w n := by simpa using h
    rw [runT, if_neg h]
    exact And.intro rfl rfl
  have h : isN w n := by simpa using h
  have hw := h.1
  obtain ⟨w, rfl⟩ := Int.eq_ofNat_of_zero_le (show 0 ≤ w by omega)
  have ho := rof_runs (w : Int) n hn (by omega) (by omega)
  rw [runT, if_pos h]
  rw [Int.toNat_natCast] at ho ⊢
  have hL := LB_all (bitsL n w)
  refine br_intro (fun h2 => ?_) (fun h2 => ?_)
  · have h2 := eq_of_beq h2
    rw [if_pos h2]
    refine CallS.snap ho rfl (oB_flat _) ?_
    refine CallS.snap (rnot_runs n w hL (by omega)) rfl (oB_flat _) ?_
    refine CallS.snap (to_bits (compl n w) w (LB_all (bitsL _ w)) (by omega) (by omega)) rfl rfl ?_
    exact And.intro rfl rfl
  have h2 := ne_of_beq_false h2
  rw [if_neg h2]
  refine br_intro (fun h3 => ?_) (fun h3 => ?_)
  · have h3 := eq_of_beq h3
    rw [if_pos h3]
    refine CallS.snap ho rfl (oB_flat _) ?_
    refine CallS.snap (rneg_runs n w hL (by omega)) rfl (oB_flat _) ?_
    refine CallS.snap (to_bits (negW n w) w (LB_all (bitsL _ w)) (by omega) (by omega)) rfl rfl ?_
    exact And.intro rfl rfl
  · have h3 := ne_of_beq_false h3
    rw [if_neg h3]
    exact And.intro rfl rfl

theorem rtruth_runs (b : Bool) : Runs Try.prog 61 [.bool b] (.t (bt 1 (if b then 1 else 0))) := by
  refine Runs.of_call ?_ rfl
  refine CallS.of_fn tab_ok reg_ok Try.func61 rfl rfl ?_
  have e : ((if b then 1 else 0 : Nat) % 2 ^ 1) = if b then 1 else 0 := by cases b <;> rfl
  rw [← e]
  refine CallS.snap (to_bits (if b then 1 else 0) 1 (L := [.bool b]) (by cases b <;> rfl) (by omega) (by omega)) rfl rfl ?_
  exact And.intro rfl rfl

end Go.Proofs.Ytkjhkcpgkccocaa
