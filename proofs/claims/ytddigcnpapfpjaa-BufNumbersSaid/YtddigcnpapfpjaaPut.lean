/-
  Bytes with a number put at a place, or behind.
-/
import Derived.Test.YtddigcnpapfpjaaTexts
namespace Go.Proofs.Ytddigcnpapfpjaa
open Go.IntWalk
set_option maxRecDepth 100000
set_option linter.unusedVariables false
set_option linter.unusedSimpArgs false

/-- The lowest n bytes of a number. -/
def little : Nat → Nat → List UInt8
  | 0, _ => []
  | n + 1, v => UInt8.ofNat (v % 256) :: little n (v / 256)

theorem little_len : ∀ (n v : Nat), (little n v).length = n
  | 0, _ => rfl
  | n + 1, v => by simp [little, little_len n]

theorem little_get : ∀ (n v i : Nat) (h : i < (little n v).length), (little n v)[i].toNat = v / 256 ^ i % 256
  | 0, v, i, h => by simp [little] at h
  | n + 1, v, 0, h => by simp [little]
  | n + 1, v, i + 1, h => by
    simp only [little, List.getElem_cons_succ]
    rw [little_get n (v / 256) i, Nat.pow_succ, Nat.mul_comm, Nat.div_div_eq_div_mul]

theorem little_snoc : ∀ (n v : Nat), little (n + 1) v = little n v ++ [UInt8.ofNat (v / 256 ^ n % 256)]
  | 0, v => by simp [little]
  | n + 1, v => by
    rw [little, little_snoc n (v / 256)]
    simp only [little, List.cons_append, Nat.div_div_eq_div_mul]
    rw [show 256 * 256 ^ n = 256 ^ (n + 1) by rw [Nat.pow_succ, Nat.mul_comm]]

theorem le_little : ∀ (n v : Nat), le (little n v) = v % 256 ^ n
  | 0, v => by simp [little, le, Nat.mod_one]
  | n + 1, v => by
    rw [little, le, le_little n (v / 256)]
    have h1 : (UInt8.ofNat (v % 256)).toNat = v % 256 := by simp
    have h2 := Nat.mod_mul (x := v) (a := 256) (b := 256 ^ n)
    rw [h1, Nat.pow_succ, Nat.mul_comm (256 ^ n) 256, h2]

theorem U_app (a b : List UInt8) : U (a ++ b) = U a ++ U b := by simp [U]

abbrev tU8 : Nat := 5
/-- A row of bytes that goes out. -/
def oU (z : Bool) (l : List UInt8) : AV := .own tU8 1 z (U l)
theorem oU_flat (z : Bool) (l : List UInt8) : Flat (oU z l) := by
  intro x hx
  simp only [U, List.mem_map] at hx
  obtain ⟨b, _, rfl⟩ := hx
  rfl

theorem fits1 {n : Nat} (h : n ≤ 140737488355328) : fitsRow n 1 = true := by
  simp only [fitsRow, Bool.and_eq_true, decide_eq_true_eq]; omega

/-- The row of a number's bytes, when k of them are written. -/
def wrow (n v k : Nat) : List T := U (little k v) ++ List.replicate (n - k) (.int .u8 0)

theorem wrow_set (n v k : Nat) (h : k < n) : (wrow n v k).set k (.int .u8 ((v / 256 ^ k % 256 : Nat) : Int)) = wrow n v (k + 1) := by
  unfold wrow
  have hl : (U (little k v)).length = k := by rw [U_len, little_len]
  rw [List.set_append_right _ _ (by omega), hl, Nat.sub_self, show n - k = (n - (k + 1)) + 1 by omega, List.replicate_succ, List.set_cons_zero, little_snoc, U_app, List.append_assoc]
  congr 1
  simp [U]
theorem wrow_len (n v k : Nat) (h : k ≤ n) : (wrow n v k).length = n := by simp [wrow, U, little_len]; omega

theorem byte_shr (v k : Nat) (hk : k < 8) : IntKind.u8.wrap ((v : Int).fdiv (2 ^ (min (IntKind.i64.wrap (8 * (k : Int))).toNat 64))) = ((v / 256 ^ k % 256 : Nat) : Int) := by
  have e : IntKind.i64.wrap (8 * (k : Int)) = ((8 * k : Nat) : Int) := by rw [i64_in _ (by omega)]; omega
  rw [e, Int.toNat_natCast, Nat.min_eq_left (by omega), show (2 : Int) ^ (8 * k) = ((2 ^ (8 * k) : Nat) : Int) by simp, Int.fdiv_eq_ediv_of_nonneg _ (Int.natCast_nonneg _), show (2 : Nat) ^ (8 * k) = 256 ^ k by rw [Nat.pow_mul], ← Int.natCast_ediv, IntKind.wrap_u8]
  omega

theorem wrow_get (n v k : Nat) (h : k < n) : (wrow n v k)[k]? = some (.int .u8 0) := by
  unfold wrow
  have hl : (U (little k v)).length = k := by rw [U_len, little_len]
  rw [List.getElem?_append_right (by omega), hl, Nat.sub_self, show n - k = (n - (k + 1)) + 1 by omega, List.replicate_succ]; rfl

def wordS (n v k : Nat) : St :=
  ⟨[(1, .t (.int .u64 v)), (5, .sl 1 0 0 n), (9, .sl 1 0 0 n), (10, .t (.int .i64 n)), (11, .t (.int .i64 k))], [.arr tU8 1 true 0 (.ts []), .arr tU8 1 false 0 (.ts (wrow n v k))]⟩

theorem word_runs (n v : Nat) (hn : n ≤ 8) : Runs Try.prog 23 [.int .i64 n, .int .u64 v] (oU false (little n v)) := by
  refine Runs.of_call ?_ rfl
  refine CallS.of_fn tab_ok reg_ok Try.func23 rfl rfl ?_
  refine ck_intro ?_ ?_
  · show (decide (0 ≤ (n : Int)) && decide ((n : Int) ≤ n) && decide ((n : Int) * 1 ≤ 140737488355328) && decide ((n : Int) ≤ 9223372036854775807) && true && true && true) = true
    simp; omega
  refine loop_on (fun k : Nat => k ≤ n) (wordS n v) (fun k => n - k) 0 (by omega) (weak_of ⟨rfl, rfl, rfl, rfl, rfl, trivial⟩ rfl) (fun k hk => ?_)
  refine br_intro (fun h => ?_) (fun h => ?_)
  · have h := of_decide_eq_true h
    have hk2 : k < n := by omega
    have e : IntKind.i64.wrap (8 * (k : Int)) = ((8 * k : Nat) : Int) := by rw [i64_in _ (by omega)]; omega
    refine ck_intro (by rw [e]; simp; omega) ?_
    refine ck_intro (by show (decide (0 ≤ (k : Int)) && decide ((k : Int) < n)) = true; simp; omega) ?_
    refine opt_intro (show (wrow n v k)[0 + ((k : Int)).toNat]? = _ by rw [Int.toNat_natCast, Nat.zero_add]; exact wrow_get n v k hk2) ?_
    have e2 := byte_shr v k (by omega)
    refine ⟨⟨k + 1, by omega⟩, weak_of ⟨rfl, rfl, rfl, rfl, ?_, trivial⟩ ?_, by show n - (k + 1) < n - k; omega⟩
    · exact congrArg (fun x => AV.t (.int .i64 x)) (by rw [i64_in _ (by omega)]; rfl)
    · refine congrArg (fun x => [Blk.arr tU8 1 true 0 (.ts []), Blk.arr tU8 1 false 0 (.ts x)]) ?_
      rw [← wrow_set n v k hk2, ← e2]
      show (wrow n v k).set (0 + ((k : Int)).toNat) _ = _
      rw [Int.toNat_natCast, Nat.zero_add]; rfl
  · have h := of_decide_eq_false h
    obtain rfl : k = n := by omega
    have e : wrow k v k = U (little k v) := by simp [wrow]
    exact And.intro ⟨congrArg (fun x => some (Blk.arr tU8 1 false 0 (Sq.ts x))) e, rfl, by rw [U_len, little_len]⟩ rfl

end Go.Proofs.Ytddigcnpapfpjaa
