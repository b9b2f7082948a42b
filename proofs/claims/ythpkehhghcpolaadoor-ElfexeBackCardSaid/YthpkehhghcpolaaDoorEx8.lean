/-
  The numbers in the front of an executable's file (plain).
-/
import Derived.Test.YthpkehhghcpolaaDoorEx7
namespace Go.Proofs.YthpkehhghcpolaaDoor
open Go.IntWalk
set_option linter.unusedVariables false

theorem fr_g (x : ExeD) (k : Nat) (r : List UInt8) (a n v : Nat) (h : a + n ≤ 64) (e : part (frontB x k ++ r) (a : Int) (n : Int) = little n v) : gN (frontB x k ++ r) a n = v % 256 ^ n := by
  have hl : 64 ≤ (frontB x k ++ r).length := by rw [List.length_append, frontB_len]; omega
  rw [gN, if_pos (by omega), e, le_little]

theorem fr_18 (x : ExeD) (k : Nat) (r : List UInt8) : gN (frontB x k ++ r) 18 2 = x.m.toNat % 65536 := by
  have e := fr_g x k r 18 2 (x.m.toNat) (by omega) (by simp [part, frontB, little])
  rw [e]

theorem fr_24 (x : ExeD) (k : Nat) (r : List UInt8) : gN (frontB x k ++ r) 24 8 = x.e.toNat % 18446744073709551616 := by
  have e := fr_g x k r 24 8 (x.e.toNat) (by omega) (by simp [part, frontB, little])
  rw [e]

theorem fr_32 (x : ExeD) (k : Nat) (r : List UInt8) : gN (frontB x k ++ r) 32 8 = 64 := by
  have e := fr_g x k r 32 8 (64) (by omega) (by simp [part, frontB, little])
  rw [e]

theorem fr_54 (x : ExeD) (k : Nat) (r : List UInt8) : gN (frontB x k ++ r) 54 2 = 56 := by
  have e := fr_g x k r 54 2 (56) (by omega) (by simp [part, frontB, little])
  rw [e]

theorem fr_56 (x : ExeD) (k : Nat) (r : List UInt8) : gN (frontB x k ++ r) 56 2 = k % 65536 := by
  have e := fr_g x k r 56 2 (k) (by omega) (by simp [part, frontB, little])
  rw [e]

end Go.Proofs.YthpkehhghcpolaaDoor
