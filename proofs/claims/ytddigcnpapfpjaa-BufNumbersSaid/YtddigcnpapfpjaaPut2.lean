/-
  Put, as the walk shows it.
-/
import Derived.Test.YtddigcnpapfpjaaPut
namespace Go.Proofs.Ytddigcnpapfpjaa
open Go.IntWalk
set_option maxRecDepth 100000
set_option linter.unusedVariables false
set_option linter.unusedSimpArgs false

theorem clone_runs (bs : List UInt8) (hb : bs.length ≤ 140737488351232) : Runs Try.prog 22 [.vec 1 (U bs)] (oU false bs) := by
  refine Runs.of_call ?_ rfl
  refine CallS.of_fn tab_ok reg_ok Try.func22 rfl rfl ?_
  refine Or.inl (And.intro rfl (ck_intro (fits1 (n := 0 + (U bs).length) (by rw [U_len]; omega)) ?_))
  exact And.intro ⟨rfl, rfl, by simp [Sq.length]⟩ rfl

def putL (bs : List UInt8) (a n v : Nat) : List UInt8 := bs.take a ++ little n v ++ bs.drop (a + n)
def putR (bs : List UInt8) (at_ n : Int) (v : Nat) : AV :=
  if There bs.length at_ n then .tup [oU false (putL bs at_.toNat n.toNat v), .t (.int .i64 0)] else .tup [oU true [], .t (.int .i64 21)]

theorem putL_len (bs : List UInt8) (a n v : Nat) (h : a + n ≤ bs.length) : (putL bs a n v).length = bs.length := by
  simp [putL, little_len]; omega

theorem putR_flat (bs : List UInt8) (at_ n : Int) (v : Nat) : Flat (putR bs at_ n v) := by
  unfold putR; split
  · exact ⟨oU_flat false _, rfl, trivial⟩
  · exact ⟨oU_flat true [], rfl, trivial⟩

theorem put_runs (bs : List UInt8) (hb : bs.length ≤ 140737488351232) (at_ n : Int) (v : Nat) :
    Runs Try.prog 12 [.vec 1 (U bs), .int .i64 at_, .int .i64 n, .int .u64 v] (putR bs at_ n v) := by
  refine Runs.of_call ?_ (by unfold putR; split <;> rfl)
  refine CallS.of_fn tab_ok reg_ok Try.func12 rfl rfl ?_
  refine CallS.pure (size_runs n) rfl ?_
  refine br_intro (fun h => ?_) (fun h => ?_)
  · have h : ¬ (1 ≤ n ∧ n ≤ 8) := by intro hh; simp [hh] at h
    rw [putR, if_neg (fun hh => h hh.1)]
    exact And.intro ⟨⟨rfl, rfl, rfl⟩, rfl, trivial⟩ rfl
  · have h : 1 ≤ n ∧ n ≤ 8 := by simpa using h
    obtain ⟨m, rfl⟩ := Int.eq_ofNat_of_zero_le (show 0 ≤ n by omega)
    refine CallS.pure (within_runs bs (by omega) at_ m (by omega)) rfl ?_
    refine br_intro (fun h2 => ?_) (fun h2 => ?_)
    · have h2 : ¬ (0 ≤ at_ ∧ at_ + m ≤ bs.length) := by intro hh; simp [hh] at h2
      rw [putR, if_neg (fun hh => h2 hh.2)]
      exact And.intro ⟨⟨rfl, rfl, rfl⟩, rfl, trivial⟩ rfl
    · have h2 : 0 ≤ at_ ∧ at_ + m ≤ bs.length := by simpa using h2
      rw [putR, if_pos ⟨h, h2⟩]
      obtain ⟨a, rfl⟩ := Int.eq_ofNat_of_zero_le h2.1
      refine CallS.pure (clone_runs bs hb) rfl ?_
      refine draw_intro [(0, false), (1, false), (2, false), (3, false), (4, false), (5, false), (6, true)] (by decide +kernel) ?_
      refine ck_intro (by rw [U_len]; simp; omega) ?_
      refine CallS.pure (word_runs m v (by omega)) rfl (And.intro (LeX.append _ _ _) ?_)
      have hl : (U (little m v)).length = m := by rw [U_len, little_len]
      refine ck_intro ?_ ?_
      · show (true && true && true && Nat.ble 1 (U bs).length) = true
        rw [U_len]
        simp [Nat.ble_eq]; omega
      refine ck_intro ?_ ?_
      · show Nat.ble (List.take (U (little m v)).length (List.drop 0 (U (little m v)))).length ((U bs).length - ((a : Int)).toNat) = true
        have hlb := U_len bs
        rw [Nat.ble_eq, List.length_take, List.length_drop, hl, Int.toNat_natCast, hlb]
        omega
      have e : List.take (0 + ((a : Int)).toNat) (U bs) ++ List.take (U (little m v)).length (List.drop 0 (U (little m v))) ++ List.drop (0 + ((a : Int)).toNat + (List.take (U (little m v)).length (List.drop 0 (U (little m v)))).length) (U bs) = U (putL bs ((a : Int)).toNat ((m : Int)).toNat v) := by
        have ht : List.take m (U (little m v)) = U (little m v) := List.take_of_length_le (by omega)
        simp only [Int.toNat_natCast, Nat.zero_add, List.drop_zero, hl, ht]
        rw [putL, U_app, U_app, U_take, U_drop]
      exact And.intro ⟨⟨congrArg (fun x => some (Blk.arr tU8 1 false 0 (Sq.ts x))) e, rfl, by rw [U_len, U_len, putL_len _ _ _ _ (by simp only [Int.toNat_natCast]; omega)]⟩, rfl, trivial⟩ rfl

end Go.Proofs.Ytddigcnpapfpjaa
