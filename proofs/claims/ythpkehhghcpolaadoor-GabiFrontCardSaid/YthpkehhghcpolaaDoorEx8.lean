/-
  The numbers in the front of an executable's file (plain).
-/
import Derived.Test.YthpkehhghcpolaaDoorEx7
namespace Go.Proofs.YthpkehhghcpolaaDoor
open Go.IntWalk
set_option linter.unusedVariables false

theorem fr_g (x : ExeD) (k : Nat) (r : List UInt8) (a n v : Nat) (h : a + n ≤ 64) (e : part (frontB x k ++ r) (a : Int) (n : Int) = little n v) : gN (frontB x k ++ r) a n = v % 256 ^ n := by
  have hl : 64 ≤ (frontB x k ++ r).length := by rw [List.length_append, frontB_len]; omega
  rw [gN, if_pos (by omega), e, le_little]

theorem fr_16 (x : ExeD) (k : Nat) (r : List UInt8) : gN (frontB x k ++ r) 16 2 = 2 := by
  have e := fr_g x k r 16 2 (2) (by omega) (by simp [part, frontB, little])
  rw [e]

theorem fr_20 (x : ExeD) (k : Nat) (r : List UInt8) : gN (frontB x k ++ r) 20 4 = 1 := by
  have e := fr_g x k r 20 4 (1) (by omega) (by simp [part, frontB, little])
  rw [e]

theorem fr_32 (x : ExeD) (k : Nat) (r : List UInt8) : gN (frontB x k ++ r) 32 8 = 64 := by
  have e := fr_g x k r 32 8 (64) (by omega) (by simp [part, frontB, little])
  rw [e]

theorem fr_52 (x : ExeD) (k : Nat) (r : List UInt8) : gN (frontB x k ++ r) 52 2 = 64 := by
  have e := fr_g x k r 52 2 (64) (by omega) (by simp [part, frontB, little])
  rw [e]

theorem fr_54 (x : ExeD) (k : Nat) (r : List UInt8) : gN (frontB x k ++ r) 54 2 = 56 := by
  have e := fr_g x k r 54 2 (56) (by omega) (by simp [part, frontB, little])
  rw [e]

theorem fr_56 (x : ExeD) (k : Nat) (r : List UInt8) : gN (frontB x k ++ r) 56 2 = k % 65536 := by
  have e := fr_g x k r 56 2 (k) (by omega) (by simp [part, frontB, little])
  rw [e]

theorem fr_60 (x : ExeD) (k : Nat) (r : List UInt8) : gN (frontB x k ++ r) 60 2 = 0 := by
  have e := fr_g x k r 60 2 0 (by omega) (by simp [part, frontB, little])
  rw [e]

theorem fr_head (x : ExeD) (k : Nat) (r : List UInt8) : hdP (frontB x k ++ r) := by
  have hl : 64 ≤ (frontB x k ++ r).length := by rw [List.length_append, frontB_len]; omega
  have n16 := fr_16 x k r
  have n20 := fr_20 x k r
  have n52 := fr_52 x k r
  refine ⟨⟨hl, by simp [frontB, magic], ?_⟩, by omega, n20, n52⟩
  rintro ⟨c, hc, hn⟩
  have e : ((frontB x k ++ r).drop 9).take 7 = List.replicate 7 0 := by simp [frontB, little]
  rw [e] at hc
  exact hn (List.eq_of_mem_replicate hc)

end Go.Proofs.YthpkehhghcpolaaDoor
