/-
  Numbers of 128 bits: or, xor, not, less.
-/
import Derived.Test.YtkjhkcpgkccocaaBv
namespace Go.Proofs.Ytkjhkcpgkccocaa
open Go.IntWalk
set_option maxRecDepth 100000
set_option linter.unusedVariables false
set_option linter.unusedSimpArgs false

theorem u64_or {a b : Nat} (ha : a < 18446744073709551616) (hb : b < 18446744073709551616) : bitsOp .or .u64 (a : Int) (b : Int) = ((a ||| b : Nat) : Int) := by
  have hor : a ||| b < 2 ^ 64 := Nat.or_lt_two_pow (by omega) (by omega)
  show IntKind.u64.wrap ((BitVec.ofInt 64 (a : Int) ||| BitVec.ofInt 64 (b : Int)).toNat : Int) = _
  rw [ofInt_nat, ofInt_nat, BitVec.toNat_or, BitVec.toNat_ofNat, BitVec.toNat_ofNat, Nat.mod_eq_of_lt (by omega), Nat.mod_eq_of_lt (by omega)]
  exact u64_nat (by omega)

theorem u64_xor {a b : Nat} (ha : a < 18446744073709551616) (hb : b < 18446744073709551616) : bitsOp .xor .u64 (a : Int) (b : Int) = ((a ^^^ b : Nat) : Int) := by
  have hor : a ^^^ b < 2 ^ 64 := Nat.xor_lt_two_pow (by omega) (by omega)
  show IntKind.u64.wrap ((BitVec.ofInt 64 (a : Int) ^^^ BitVec.ofInt 64 (b : Int)).toNat : Int) = _
  rw [ofInt_nat, ofInt_nat, BitVec.toNat_xor, BitVec.toNat_ofNat, BitVec.toNat_ofNat, Nat.mod_eq_of_lt (by omega), Nat.mod_eq_of_lt (by omega)]
  exact u64_nat (by omega)

theorem u64_not {a : Nat} (ha : a < 18446744073709551616) : bitsOp .xor .u64 18446744073709551615 (a : Int) = ((18446744073709551615 - a : Nat) : Int) := by
  show IntKind.u64.wrap ((BitVec.ofInt 64 (18446744073709551615 : Int) ^^^ BitVec.ofInt 64 (a : Int)).toNat : Int) = _
  rw [show BitVec.ofInt 64 (18446744073709551615 : Int) = BitVec.allOnes 64 from by decide, ofInt_nat, BitVec.allOnes_xor, BitVec.toNat_not, BitVec.toNat_ofNat, Nat.mod_eq_of_lt (by omega)]
  rw [u64_nat (by omega)]

theorem or_runs (a b : Nat) (ha : a < 2 ^ 128) (hb : b < 2 ^ 128) : Runs Try.prog 43 [wd a, wd b] (.t (wd (a ||| b))) := by
  refine Runs.of_call ?_ rfl
  refine CallS.of_fn tab_ok reg_ok Try.func43 rfl rfl ?_
  have e1 : bitsOp .or .u64 ((a / 18446744073709551616 : Nat) : Int) ((b / 18446744073709551616 : Nat) : Int) = (((a ||| b) / 18446744073709551616 : Nat) : Int) := by
    rw [u64_or (by omega) (by omega)]
    exact congrArg _ (Nat.or_div_two_pow (n := 64)).symm
  have e2 : bitsOp .or .u64 ((a % 18446744073709551616 : Nat) : Int) ((b % 18446744073709551616 : Nat) : Int) = (((a ||| b) % 18446744073709551616 : Nat) : Int) := by
    rw [u64_or (by omega) (by omega)]
    exact congrArg _ (Nat.or_mod_two_pow (n := 64)).symm
  exact And.intro (agg2 e1 e2) rfl

theorem xor_runs (a b : Nat) (ha : a < 2 ^ 128) (hb : b < 2 ^ 128) : Runs Try.prog 48 [wd a, wd b] (.t (wd (a ^^^ b))) := by
  refine Runs.of_call ?_ rfl
  refine CallS.of_fn tab_ok reg_ok Try.func48 rfl rfl ?_
  have e1 : bitsOp .xor .u64 ((a / 18446744073709551616 : Nat) : Int) ((b / 18446744073709551616 : Nat) : Int) = (((a ^^^ b) / 18446744073709551616 : Nat) : Int) := by
    rw [u64_xor (by omega) (by omega)]
    exact congrArg _ (Nat.xor_div_two_pow (n := 64)).symm
  have e2 : bitsOp .xor .u64 ((a % 18446744073709551616 : Nat) : Int) ((b % 18446744073709551616 : Nat) : Int) = (((a ^^^ b) % 18446744073709551616 : Nat) : Int) := by
    rw [u64_xor (by omega) (by omega)]
    exact congrArg _ (Nat.xor_mod_two_pow (n := 64)).symm
  exact And.intro (agg2 e1 e2) rfl

theorem not_runs (a : Nat) (ha : a < 2 ^ 128) : Runs Try.prog 67 [wd a] (.t (wd (340282366920938463463374607431768211455 - a))) := by
  refine Runs.of_call ?_ rfl
  refine CallS.of_fn tab_ok reg_ok Try.func67 rfl rfl ?_
  have e1 : bitsOp .xor .u64 18446744073709551615 ((a / 18446744073709551616 : Nat) : Int) = (((340282366920938463463374607431768211455 - a) / 18446744073709551616 : Nat) : Int) := by
    rw [u64_not (by omega)]; omega
  have e2 : bitsOp .xor .u64 18446744073709551615 ((a % 18446744073709551616 : Nat) : Int) = (((340282366920938463463374607431768211455 - a) % 18446744073709551616 : Nat) : Int) := by
    rw [u64_not (by omega)]; omega
  exact And.intro (agg2 e1 e2) rfl

theorem less_runs (a b : Nat) : Runs Try.prog 51 [wd a, wd b] (.t (.bool (decide (a < b)))) := by
  refine Runs.of_call ?_ rfl
  refine CallS.of_fn tab_ok reg_ok Try.func51 rfl rfl ?_
  refine br_intro (fun h => ?_) (fun h => ?_)
  · have h := of_decide_eq_true h
    rw [decide_eq_true (show a < b by omega)]
    exact And.intro rfl rfl
  have h := of_decide_eq_false h
  refine br_intro (fun h2 => ?_) (fun h2 => ?_)
  · have h2 := eq_of_beq h2
    refine And.intro (congrArg (fun b => some (T.bool b)) ?_) rfl
    show decide (((a % 18446744073709551616 : Nat) : Int) < ((b % 18446744073709551616 : Nat) : Int)) = _
    rw [decide_eq_decide]
    omega
  · have h2 := ne_of_beq_false h2
    rw [decide_eq_false (show ¬ a < b by omega)]
    exact And.intro rfl rfl

end Go.Proofs.Ytkjhkcpgkccocaa
