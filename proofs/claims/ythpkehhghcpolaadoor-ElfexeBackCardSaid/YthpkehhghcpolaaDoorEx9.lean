/-
  The numbers of an executable's program headers in its file (plain).
-/
import Derived.Test.YthpkehhghcpolaaDoorEx8
namespace Go.Proofs.YthpkehhghcpolaaDoor
open Go.IntWalk
set_option linter.unusedVariables false

theorem gN_in (pre m post : List UInt8) (a n : Nat) (h : a + n ≤ m.length) : gN (pre ++ (m ++ post)) (pre.length + a) n = gN m a n := by
  have e : part (pre ++ (m ++ post)) ((pre.length + a : Nat) : Int) (n : Int) = part m (a : Int) (n : Int) := by
    simp only [part, Int.toNat_natCast]
    rw [← List.drop_drop, List.drop_left, List.drop_append_of_le_length (by omega), List.take_append_of_le_length (by simp; omega)]
  rw [gN, gN, if_pos (by simp; omega), if_pos h, e]

theorem hd_g (h : HdD) (o a n v : Nat) (hh : a + n ≤ 56) (e : part (hdB h o) (a : Int) (n : Int) = little n v) : gN (hdB h o) a n = v % 256 ^ n := by
  rw [gN, if_pos (by rw [hdB_len]; omega), e, le_little]

theorem hd_0 (h : HdD) (o : Nat) : gN (hdB h o) 0 4 = h.k % 4294967296 := by
  have e := hd_g h o 0 4 (h.k) (by omega) (by simp [part, hdB, little])
  rw [e]

theorem hd_4 (h : HdD) (o : Nat) : gN (hdB h o) 4 4 = h.fl % 4294967296 := by
  have e := hd_g h o 4 4 (h.fl) (by omega) (by simp [part, hdB, little])
  rw [e]

theorem hd_8 (h : HdD) (o : Nat) : gN (hdB h o) 8 8 = o % 18446744073709551616 := by
  have e := hd_g h o 8 8 (o) (by omega) (by simp [part, hdB, little])
  rw [e]

theorem hd_16 (h : HdD) (o : Nat) : gN (hdB h o) 16 8 = h.v % 18446744073709551616 := by
  have e := hd_g h o 16 8 (h.v) (by omega) (by simp [part, hdB, little])
  rw [e]

theorem hd_32 (h : HdD) (o : Nat) : gN (hdB h o) 32 8 = h.d.length % 18446744073709551616 := by
  have e := hd_g h o 32 8 (h.d.length) (by omega) (by simp [part, hdB, little])
  rw [e]

theorem hd_40 (h : HdD) (o : Nat) : gN (hdB h o) 40 8 = h.sz % 18446744073709551616 := by
  have e := hd_g h o 40 8 (h.sz) (by omega) (by simp [part, hdB, little])
  rw [e]

theorem hd_48 (h : HdD) (o : Nat) : gN (hdB h o) 48 8 = h.al % 18446744073709551616 := by
  have e := hd_g h o 48 8 (h.al) (by omega) (by simp [part, hdB, little])
  rw [e]

theorem hdsB_split : ∀ (l : List HdD) (os : List Nat) (i : Nat) (h1 : i < l.length) (h2 : i < os.length), hdsB l os = hdsB (l.take i) (os.take i) ++ (hdB l[i] os[i] ++ hdsB (l.drop (i + 1)) (os.drop (i + 1)))
  | h :: r, o :: os, 0, _, _ => by simp [hdsB]
  | h :: r, o :: os, i + 1, h1, h2 => by
    have := hdsB_split r os i (by simpa using h1) (by simpa using h2)
    simp only [hdsB, List.take_succ_cons, List.drop_succ_cons, List.getElem_cons_succ, List.append_assoc]
    rw [this]

end Go.Proofs.YthpkehhghcpolaaDoor
