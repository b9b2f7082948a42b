/-
  Numbers, parts and texts of a file: the two programs' functions.
-/
import Derived.Test.YthpkehhghcpolaaDoorCk0
namespace Go.Proofs.YthpkehhghcpolaaDoor
open Go.IntWalk
set_option maxRecDepth 100000
set_option linter.unusedVariables false
set_option linter.unusedSimpArgs false

/-- The number of n bytes at a place; 0: it isn't there. -/
def gN (bs : List UInt8) (a n : Nat) : Nat := if a + n ≤ bs.length then le (part bs a n) else 0

theorem part_len {bs : List UInt8} {a n : Nat} (h : a + n ≤ bs.length) : (part bs (a : Int) (n : Int)).length = n := by simp [part]; omega

theorem gN_lt (bs : List UInt8) (a n : Nat) (hn : n ≤ 8) : gN bs a n < 18446744073709551616 := by
  unfold gN
  split
  · rename_i h
    have := le_lt (part bs (a : Int) (n : Int))
    rw [part_len h] at this
    exact Nat.lt_of_lt_of_le this (by rw [show (18446744073709551616 : Nat) = 2 ^ (8 * 8) from rfl]; exact Nat.pow_le_pow_right (by omega) (by omega))
  · omega

theorem gN_lt' (bs : List UInt8) (a n k : Nat) (hk : 256 ^ n = k) (h0 : 0 < k) : gN bs a n < k := by
  unfold gN
  split
  · rename_i h
    have := le_lt (part bs (a : Int) (n : Int))
    rw [part_len h, Nat.pow_mul] at this
    exact hk ▸ this
  · exact h0

theorem i64_big {a : Nat} (h : a < 18446744073709551616) (h2 : 9223372036854775808 ≤ a) : IntKind.i64.wrap (a : Int) = (a : Int) - 18446744073709551616 := by
  rw [IntKind.wrap_i64]; omega

theorem wrap_there {bs : List UInt8} (hb : bs.length ≤ 211106232532992) {a n : Nat} (ha : a < 18446744073709551616) (hn : 1 ≤ n ∧ n ≤ 8) :
    There bs.length (IntKind.i64.wrap (a : Int)) (n : Int) ↔ a + n ≤ bs.length := by
  unfold There
  by_cases h : a < 9223372036854775808
  · rw [i64_nat h]; omega
  · rw [i64_big ha (by omega)]; omega

theorem getR_gN {bs : List UInt8} (hb : bs.length ≤ 211106232532992) {a n : Nat} (ha : a < 18446744073709551616) (hn : 1 ≤ n ∧ n ≤ 8) :
    ∃ e : Int, getR bs (IntKind.i64.wrap (a : Int)) (n : Int) = .tup [.t (.int .u64 (gN bs a n)), .t (.int .i64 e)] := by
  have hT := wrap_there (bs := bs) hb ha hn
  unfold getR gN
  by_cases h : a + n ≤ bs.length
  · rw [if_pos (hT.2 h), if_pos h, i64_nat (by omega)]
    exact ⟨0, rfl⟩
  · rw [if_neg (fun hh => h (hT.1 hh)), if_neg h]
    exact ⟨21, rfl⟩

theorem within_nil (at_ n : Int) (hn : 1 ≤ n ∧ n ≤ 8) : Runs Tryd.prog 96 [.nils, .int .i64 at_, .int .i64 n] (.t (.bool false)) := by
  refine Runs.of_call ?_ rfl
  refine CallS.of_fn tab_ok reg_ok Tryd.func96 rfl rfl ?_
  refine br_intro (fun h => ?_) (fun h => And.intro rfl rfl)
  have h := of_decide_eq_true h
  refine And.intro (congrArg (fun b => some (T.bool b)) ?_) rfl
  show decide (at_ ≤ IntKind.i64.wrap (0 - n)) = false
  rw [i64_in _ (by omega)]
  exact decide_eq_false (by omega)

theorem get_any {x : T} {bs : List UInt8} (hx : BX x bs) (hb : bs.length ≤ 211106232532992) {a n : Nat} (ha : a < 18446744073709551616) (hn : 1 ≤ n ∧ n ≤ 8) :
    ∃ e : Int, Runs Tryd.prog 55 [x, .int .i64 (IntKind.i64.wrap (a : Int)), .int .i64 (n : Int)] (.tup [.t (.int .u64 (gN bs a n)), .t (.int .i64 e)]) := by
  cases hx with
  | vec bs L h =>
    subst h
    obtain ⟨e, he⟩ := getR_gN hb ha hn
    exact ⟨e, he ▸ get_runs bs (by omega) _ _⟩
  | nil =>
    refine ⟨21, ?_⟩
    rw [show gN [] a n = 0 by unfold gN; rw [if_neg (by simp; omega)]]
    refine Runs.of_call ?_ rfl
    refine CallS.of_fn tab_ok reg_ok Tryd.func55 rfl rfl ?_
    have hS := size_runs (n : Int)
    rw [decide_eq_true (show 1 ≤ (n : Int) ∧ (n : Int) ≤ 8 by omega)] at hS
    refine CallS.pure hS rfl ?_
    refine CallS.pure (within_nil _ _ (by omega)) rfl ?_
    exact And.intro ⟨rfl, rfl, trivial⟩ rfl

theorem num_g {x : T} {bs : List UInt8} (hx : BX x bs) (hb : bs.length ≤ 211106232532992) {a n : Nat} (ha : a < 18446744073709551616) (hn : 1 ≤ n ∧ n ≤ 8) :
    Runs Tryd.prog 60 [x, .int .u64 (a : Int), .int .i64 (n : Int)] (.t (.int .u64 (gN bs a n))) := by
  obtain ⟨e, hG⟩ := get_any hx hb ha hn
  cases hx with
  | vec bs L h =>
    refine Runs.of_call ?_ rfl
    refine CallS.of_fn tab_ok reg_ok Tryd.func60 rfl rfl ?_
    refine CallS.pure hG rfl ?_
    exact And.intro rfl rfl
  | nil =>
    refine Runs.of_call ?_ rfl
    refine CallS.of_fn tab_ok reg_ok Tryd.func60 rfl rfl ?_
    refine CallS.pure hG rfl ?_
    exact And.intro rfl rfl

theorem within_g {x : T} {bs : List UInt8} (hx : BX x bs) (hb : bs.length ≤ 211106232532992) {a n : Nat} (ha : a < 18446744073709551616) (hn : n < 18446744073709551616) :
    Runs Tryd.prog 62 [x, .int .u64 (a : Int), .int .u64 (n : Int)] (.t (.bool (decide (a + n ≤ bs.length)))) := by
  cases hx with
  | vec bs L e =>
    subst e
    refine Runs.of_call ?_ rfl
    refine CallS.of_fn tab_ok reg_ok Tryd.func62 rfl rfl ?_
    refine br_intro (fun h => ?_) (fun h => ?_)
    · have h := of_decide_eq_true h
      rw [U_len, u64_nat (by omega)] at h
      refine And.intro (congrArg (fun b => some (T.bool b)) ?_) rfl
      show decide ((n : Int) ≤ IntKind.u64.wrap (IntKind.u64.wrap ((U bs).length : Int) - (a : Int))) = _
      rw [U_len, u64_nat (by omega), show ((bs.length : Int) - (a : Int)) = ((bs.length - a : Nat) : Int) by omega, u64_nat (by omega)]
      exact decide_eq_decide.2 (by omega)
    · have h := of_decide_eq_false h
      rw [U_len, u64_nat (by omega)] at h
      exact And.intro (congrArg (fun b => some (T.bool b)) (decide_eq_false (by omega)).symm) rfl
  | nil =>
    refine Runs.of_call ?_ rfl
    refine CallS.of_fn tab_ok reg_ok Tryd.func62 rfl rfl ?_
    refine br_intro (fun h => ?_) (fun h => ?_)
    · have h : (a : Int) ≤ IntKind.u64.wrap 0 := of_decide_eq_true h
      rw [show IntKind.u64.wrap 0 = 0 from rfl] at h
      have h0 : a = 0 := by omega
      subst h0
      refine And.intro (congrArg (fun b => some (T.bool b)) ?_) rfl
      show decide ((n : Int) ≤ IntKind.u64.wrap (IntKind.u64.wrap 0 - ((0 : Nat) : Int))) = _
      rw [show IntKind.u64.wrap (IntKind.u64.wrap 0 - ((0 : Nat) : Int)) = 0 from rfl]
      exact decide_eq_decide.2 (by simp)
    · have h : ¬ (a : Int) ≤ IntKind.u64.wrap 0 := of_decide_eq_false h
      rw [show IntKind.u64.wrap 0 = 0 from rfl] at h
      exact And.intro (congrArg (fun b => some (T.bool b)) (decide_eq_false (by simp; omega)).symm) rfl

/-- Is it 0 or a power of two? -/
def pw (n : Nat) : Prop := n = 0 ∨ ∃ j, j < 64 ∧ n = 2 ^ j

theorem pow64 {n : Nat} (h : n < 18446744073709551616) (h1 : 1 ≤ n) : (n &&& (n - 1)) = 0 ↔ ∃ j, j < 64 ∧ n = 2 ^ j := by
  rw [and_pred h1]
  constructor
  · rintro ⟨j, rfl⟩
    refine ⟨j, ?_, rfl⟩
    rcases Nat.lt_or_ge j 64 with h2 | h2
    · exact h2
    · have : 2 ^ 64 ≤ 2 ^ j := Nat.pow_le_pow_right (by omega) h2
      omega
  · rintro ⟨j, _, rfl⟩
    exact ⟨j, rfl⟩

theorem u64_and {a b : Nat} (ha : a < 18446744073709551616) (hb : b < 18446744073709551616) : bitsOp .and .u64 (a : Int) (b : Int) = ((a &&& b : Nat) : Int) := by
  have e : bitsOp .and .u64 (a : Int) (b : Int) = IntKind.u64.wrap ((BitVec.ofInt 64 (a : Int) &&& BitVec.ofInt 64 (b : Int)).toNat : Int) := rfl
  rw [e, ofInt_nat, ofInt_nat, BitVec.toNat_and, BitVec.toNat_ofNat, BitVec.toNat_ofNat, Nat.mod_eq_of_lt (by omega), Nat.mod_eq_of_lt (by omega)]
  exact u64_nat (Nat.lt_of_le_of_lt Nat.and_le_left ha)

theorem power_g {n : Nat} (hn : n < 18446744073709551616) : ∃ b, Runs Tryd.prog 63 [.int .u64 (n : Int)] (.t (.bool b)) ∧ (b = true ↔ pw n) := by
  refine ⟨bitsOp .and .u64 (n : Int) (IntKind.u64.wrap ((n : Int) - 1)) == 0, ?_, ?_⟩
  · refine Runs.of_call ?_ rfl
    refine CallS.of_fn tab_ok reg_ok Tryd.func63 rfl rfl ?_
    exact And.intro rfl rfl
  · by_cases h0 : n = 0
    · subst h0
      exact ⟨fun _ => .inl rfl, fun _ => by decide +kernel⟩
    · rw [show ((n : Int) - 1) = ((n - 1 : Nat) : Int) by omega, u64_nat (by omega), u64_and hn (by omega), beq_iff_eq]
      have := pow64 hn (by omega)
      unfold pw
      constructor
      · intro h; exact .inr (this.1 (by omega))
      · rintro (h | h)
        · exact absurd h h0
        · have := this.2 h; omega

end Go.Proofs.YthpkehhghcpolaaDoor
