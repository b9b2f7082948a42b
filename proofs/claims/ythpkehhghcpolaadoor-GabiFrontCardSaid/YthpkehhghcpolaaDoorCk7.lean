/-
  The sections of a file: headers and bytes.
-/
import Derived.Test.YthpkehhghcpolaaDoorCk6
namespace Go.Proofs.YthpkehhghcpolaaDoor
open Go.IntWalk
set_option maxRecDepth 100000
set_option linter.unusedVariables false
set_option linter.unusedSimpArgs false

/-- Where a section's header is, and its numbers. -/
def hA (bs : List UInt8) (i : Nat) : Nat := (gN bs 40 8 + 64 * i) % 18446744073709551616
def hF (bs : List UInt8) (i d n : Nat) : Nat := gN bs ((hA bs i + d) % 18446744073709551616) n

theorem hA_lt (bs : List UInt8) (i : Nat) : hA bs i < 18446744073709551616 := Nat.mod_lt _ (by omega)
theorem hF_lt8 (bs : List UInt8) (i d : Nat) : hF bs i d 8 < 18446744073709551616 := g8_lt _ _
theorem hF_lt4 (bs : List UInt8) (i d : Nat) : hF bs i d 4 < 4294967296 := g4_lt _ _
theorem hF0 (bs : List UInt8) (i n : Nat) : hF bs i 0 n = gN bs (hA bs i) n := by
  unfold hF; rw [Nat.add_zero, Nat.mod_eq_of_lt (hA_lt _ _)]

theorem hA_eq (bs : List UInt8) (i : Nat) (hi : i < 65536) : IntKind.u64.wrap (((gN bs 40 8 : Nat) : Int) + IntKind.u64.wrap (64 * (i : Int))) = ((hA bs i : Nat) : Int) := by
  rw [show (64 * (i : Int)) = ((64 * i : Nat) : Int) by omega, u64_nat (n := 64 * i) (by omega), ← Int.natCast_add, u64_mod]
  rfl

/-- A section's bytes; none, if they don't lie within. -/
def sB (bs : List UInt8) (i : Nat) : List UInt8 := if hF bs i 24 8 + hF bs i 32 8 ≤ bs.length then (bs.drop (hF bs i 24 8)).take (hF bs i 32 8) else []
def sT (bs : List UInt8) (i : Nat) : T := if hF bs i 24 8 + hF bs i 32 8 ≤ bs.length then .vec 1 (U ((bs.drop (hF bs i 24 8)).take (hF bs i 32 8))) else .nils

theorem sT_BX (bs : List UInt8) (i : Nat) : BX (sT bs i) (sB bs i) := by
  unfold sT sB
  split
  · exact .vec _ _ rfl
  · exact .nil

theorem sB_le (bs : List UInt8) (i : Nat) : (sB bs i).length ≤ bs.length := by
  unfold sB
  split
  · simp; omega
  · simp

theorem sB_len {bs : List UInt8} {i : Nat} (h : hF bs i 24 8 + hF bs i 32 8 ≤ bs.length) : (sB bs i).length = hF bs i 32 8 := by
  unfold sB; rw [if_pos h]; simp; omega

/-- A section's header, as the program holds it. -/
def secT (bs : List UInt8) (i : Nat) : T := .agg [.int .u64 (hF bs i 0 4 : Nat), .int .u64 (hF bs i 4 4 : Nat), .int .u64 (hF bs i 24 8 : Nat), .int .u64 (hF bs i 32 8 : Nat), .int .u64 (hF bs i 40 4 : Nat), .int .u64 (hF bs i 44 4 : Nat), .int .u64 (hF bs i 48 8 : Nat), .int .u64 (hF bs i 56 8 : Nat)]
def secL (bs : List UInt8) (n : Nat) : List T := (List.range n).map (secT bs)
theorem secL_len (bs n) : (secL bs n).length = n := by simp [secL]
theorem secL_get {bs : List UInt8} {n i : Nat} (h : i < n) : (secL bs n)[i]? = some (secT bs i) := by simp [secL, h]
theorem secL_succ (bs n) : secL bs (n + 1) = secL bs n ++ [secT bs n] := by simp [secL, List.range_succ]

theorem bytes_g (bs : List UInt8) (hb : bs.length ≤ 211106232532992) (i : Nat) :
    Runs Tryd.prog 65 [.vec 1 (U bs), secT bs i] (.t (sT bs i)) := by
  have hx : BX (.vec 1 (U bs)) bs := .vec bs _ rfl
  have l24 := hF_lt8 bs i 24
  have l32 := hF_lt8 bs i 32
  refine Runs.of_call ?_ rfl
  refine CallS.of_fn tab_ok reg_ok Tryd.func65 rfl rfl ?_
  refine CallS.pure (within_g hx hb l24 l32) rfl ?_
  refine br_intro (fun h => ?_) (fun h => ?_)
  · have h := of_decide_eq_false (nb h)
    rw [sT, if_neg h]
    exact And.intro rfl rfl
  · have h := of_decide_eq_true (nb' h)
    rw [sT, if_pos h]
    have e : IntKind.u64.wrap (((hF bs i 24 8 : Nat) : Int) + ((hF bs i 32 8 : Nat) : Int)) = ((hF bs i 24 8 + hF bs i 32 8 : Nat) : Int) := by rw [← Int.natCast_add]; exact u64_nat (by omega)
    refine ck_intro (by rw [e, U_len]; simp; omega) ?_
    rw [e]
    refine ck_intro (by simp; omega) ?_
    refine And.intro (congrArg (fun l => some (T.vec 1 l)) ?_) rfl
    rw [Int.toNat_natCast, Int.toNat_natCast, U_drop, U_take, Nat.add_sub_cancel_left]

theorem fits64 {n : Nat} (h : n ≤ 100000) : fitsRow n 64 = true := by simp [fitsRow]; omega

theorem sections_g (bs : List UInt8) (hb : bs.length ≤ 211106232532992) :
    Runs Tryd.prog 64 [.vec 1 (U bs)] (.own 110 8 true (secL bs (gN bs 60 2))) := by
  have hx : BX (.vec 1 (U bs)) bs := .vec bs _ rfl
  have hcnt := g2_lt bs 60
  refine Runs.of_call ?_ rfl
  refine CallS.of_fn tab_ok reg_ok Tryd.func64 rfl rfl ?_
  refine CallS.pure (num_g hx hb (a := 40) (n := 8) (by omega) (by omega)) rfl ?_
  refine CallS.pure (num_g hx hb (a := 60) (n := 2) (by omega) (by omega)) rfl ?_
  refine loop_on (fun i : Nat => i ≤ gN bs 60 2) (fun i => ⟨[(0, .t (.vec 1 (U bs))), (3, .sl 1 0 0 (secL bs i).length), (4, .t (.int .u64 ((gN bs 40 8 : Nat) : Int))), (10, .t (.int .u64 ((gN bs 60 2 : Nat) : Int))), (11, .t (.int .u64 (i : Int)))],
    [.arr 110 8 true 0 (.ts []), .arr 110 8 true 0 (.ts (secL bs i))]⟩) (fun i => gN bs 60 2 - i) 0 (by omega) (weak_of ⟨rfl, rfl, rfl, rfl, rfl, trivial⟩ rfl) (fun i hi => ?_)
  refine br_intro (fun h => ?_) (fun h => ?_)
  · have h : (i : Int) < ((gN bs 60 2 : Nat) : Int) := of_decide_eq_true h
    have hH := hA_eq bs i (by omega)
    have hN0 := num_g hx hb (a := hA bs i) (n := 4) (hA_lt _ _) (by omega)
    rw [← hF0, ← hH] at hN0
    have hN : ∀ (d n : Nat), 1 ≤ n ∧ n ≤ 8 → Runs Tryd.prog 60 [.vec 1 (U bs), .int .u64 (IntKind.u64.wrap (IntKind.u64.wrap (((gN bs 40 8 : Nat) : Int) + IntKind.u64.wrap (64 * (i : Int))) + (d : Int))), .int .i64 (n : Int)] (.t (.int .u64 ((hF bs i d n : Nat) : Int))) := fun d n hn => by
      have := num_g hx hb (a := (hA bs i + d) % 18446744073709551616) (n := n) (Nat.mod_lt _ (by omega)) hn
      rw [← u64_mod, Int.natCast_add, ← hH] at this
      exact this
    refine CallS.pure hN0 rfl ?_
    refine CallS.pure (hN 4 4 (by omega)) rfl ?_
    refine CallS.pure (hN 24 8 (by omega)) rfl ?_
    refine CallS.pure (hN 32 8 (by omega)) rfl ?_
    refine CallS.pure (hN 40 4 (by omega)) rfl ?_
    refine CallS.pure (hN 44 4 (by omega)) rfl ?_
    refine CallS.pure (hN 48 8 (by omega)) rfl ?_
    refine CallS.pure (hN 56 8 (by omega)) rfl ?_
    refine Or.inl (And.intro rfl (ck_intro (fits64 (n := (secL bs i).length + 1) (by rw [secL_len]; omega)) ?_))
    refine ⟨⟨i + 1, by omega⟩, weak_gc [0, 1] rfl ⟨rfl, ?_, rfl, rfl, ?_, trivial⟩ ⟨rfl, ?_, trivial⟩, by show gN bs 60 2 - (i + 1) < gN bs 60 2 - i; omega⟩
    · exact congrArg (fun n : Nat => some (AV.sl 1 0 0 n)) (show (secL bs i).length + 1 = (secL bs (i + 1)).length by rw [secL_len, secL_len])
    · exact congrArg (fun x => some (AV.t (.int .u64 x))) (u64_nat (n := i + 1) (by omega))
    · exact congrArg (fun x => some (Blk.arr 110 8 true 0 (.ts x))) (secL_succ bs i).symm
  · have h : ¬ (i : Int) < ((gN bs 60 2 : Nat) : Int) := of_decide_eq_false h
    obtain rfl : i = gN bs 60 2 := by omega
    exact And.intro ⟨rfl, rfl, rfl⟩ rfl

end Go.Proofs.YthpkehhghcpolaaDoor
