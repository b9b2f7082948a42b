/-
  A number's bytes behind a nil slice; numbers written to a buffer.
-/
import Derived.Test.YthpkehhghcpolaaDoorEx4
namespace Go.Proofs.YthpkehhghcpolaaDoor
open Go.IntWalk
set_option maxRecDepth 100000
set_option linter.unusedVariables false
set_option linter.unusedSimpArgs false

theorem i64_in (n : Int) (h : -9223372036854775808 ≤ n ∧ n ≤ 9223372036854775807) : IntKind.i64.wrap n = n := by rw [IntKind.wrap_i64]; omega

/-- The lowest n bytes of a number. -/
def little : Nat → Nat → List UInt8
  | 0, _ => []
  | n + 1, v => UInt8.ofNat (v % 256) :: little n (v / 256)

theorem little_len : ∀ (n v : Nat), (little n v).length = n
  | 0, _ => rfl
  | n + 1, v => by simp [little, little_len n]

theorem little_snoc : ∀ (n v : Nat), little (n + 1) v = little n v ++ [UInt8.ofNat (v / 256 ^ n % 256)]
  | 0, v => by simp [little]
  | n + 1, v => by
    rw [little, little_snoc n (v / 256)]
    simp only [little, List.cons_append, Nat.div_div_eq_div_mul]
    rw [show 256 * 256 ^ n = 256 ^ (n + 1) by rw [Nat.pow_succ, Nat.mul_comm]]

theorem le_little : ∀ (n v : Nat), le (little n v) = v % 256 ^ n
  | 0, v => by simp [little, le, Nat.mod_one]
  | n + 1, v => by
    rw [little, le, le_little n (v / 256)]
    have h1 : (UInt8.ofNat (v % 256)).toNat = v % 256 := by simp
    have h2 := Nat.mod_mul (x := v) (a := 256) (b := 256 ^ n)
    rw [h1, Nat.pow_succ, Nat.mul_comm (256 ^ n) 256, h2]

theorem U_app (a b : List UInt8) : U (a ++ b) = U a ++ U b := by simp [U]

abbrev tU8 : Nat := 5
/-- A row of bytes that goes out. -/
def oU (z : Bool) (l : List UInt8) : AV := .own tU8 1 z (U l)
/-- The row of a number's bytes, when k of them are written. -/
def wrow (n v k : Nat) : List T := U (little k v) ++ List.replicate (n - k) (.int .u8 0)

theorem wrow_set (n v k : Nat) (h : k < n) : (wrow n v k).set k (.int .u8 ((v / 256 ^ k % 256 : Nat) : Int)) = wrow n v (k + 1) := by
  unfold wrow
  have hl : (U (little k v)).length = k := by rw [U_len, little_len]
  rw [List.set_append_right _ _ (by omega), hl, Nat.sub_self, show n - k = (n - (k + 1)) + 1 by omega, List.replicate_succ, List.set_cons_zero, little_snoc, U_app, List.append_assoc]
  congr 1
  simp [U]
theorem byte_shr (v k : Nat) (hk : k < 8) : IntKind.u8.wrap ((v : Int).fdiv (2 ^ (min (IntKind.i64.wrap (8 * (k : Int))).toNat 64))) = ((v / 256 ^ k % 256 : Nat) : Int) := by
  have e : IntKind.i64.wrap (8 * (k : Int)) = ((8 * k : Nat) : Int) := by rw [i64_in _ (by omega)]; omega
  rw [e, Int.toNat_natCast, Nat.min_eq_left (by omega), show (2 : Int) ^ (8 * k) = ((2 ^ (8 * k) : Nat) : Int) by simp, Int.fdiv_eq_ediv_of_nonneg _ (Int.natCast_nonneg _), show (2 : Nat) ^ (8 * k) = 256 ^ k by rw [Nat.pow_mul], ← Int.natCast_ediv, IntKind.wrap_u8]
  omega

theorem wrow_get (n v k : Nat) (h : k < n) : (wrow n v k)[k]? = some (.int .u8 0) := by
  unfold wrow
  have hl : (U (little k v)).length = k := by rw [U_len, little_len]
  rw [List.getElem?_append_right (by omega), hl, Nat.sub_self, show n - k = (n - (k + 1)) + 1 by omega, List.replicate_succ]; rfl

def wordS (n v k : Nat) : St :=
  ⟨[(1, .t (.int .u64 v)), (5, .sl 1 0 0 n), (9, .sl 1 0 0 n), (10, .t (.int .i64 n)), (11, .t (.int .i64 k))], [.arr tU8 1 true 0 (.ts []), .arr tU8 1 false 0 (.ts (wrow n v k))]⟩

theorem word_runs (n v : Nat) (hn : n ≤ 8) : Runs Tryd.prog 95 [.int .i64 n, .int .u64 v] (oU false (little n v)) := by
  refine Runs.of_call ?_ rfl
  refine CallS.of_fn tab_ok reg_ok Tryd.func95 rfl rfl ?_
  refine ck_intro ?_ ?_
  · show (decide (0 ≤ (n : Int)) && decide ((n : Int) ≤ n) && decide ((n : Int) * 1 ≤ 140737488355328) && decide ((n : Int) ≤ 9223372036854775807) && true && true && true) = true
    simp; omega
  refine br_intro (fun h => absurd (of_decide_eq_true h) (by omega)) (fun _ => ?_)
  refine loop_on (fun k : Nat => k ≤ n) (wordS n v) (fun k => n - k) 0 (by omega) (weak_of ⟨rfl, rfl, rfl, rfl, rfl, trivial⟩ rfl) (fun k hk => ?_)
  refine br_intro (fun h => ?_) (fun h => ?_)
  · have h := of_decide_eq_true h
    have hk2 : k < n := by omega
    have e : IntKind.i64.wrap (8 * (k : Int)) = ((8 * k : Nat) : Int) := by rw [i64_in _ (by omega)]; omega
    refine ck_intro (by rw [e]; simp; omega) ?_
    refine ck_intro (by show (decide (0 ≤ (k : Int)) && decide ((k : Int) < n)) = true; simp; omega) ?_
    refine opt_intro (show (wrow n v k)[0 + ((k : Int)).toNat]? = _ by rw [Int.toNat_natCast, Nat.zero_add]; exact wrow_get n v k hk2) ?_
    have e2 := byte_shr v k (by omega)
    refine ⟨⟨k + 1, by omega⟩, weak_of ⟨rfl, rfl, rfl, rfl, ?_, trivial⟩ ?_, by show n - (k + 1) < n - k; omega⟩
    · exact congrArg (fun x => AV.t (.int .i64 x)) (by rw [i64_in _ (by omega)]; rfl)
    · refine congrArg (fun x => [Blk.arr tU8 1 true 0 (.ts []), Blk.arr tU8 1 false 0 (.ts x)]) ?_
      rw [← wrow_set n v k hk2, ← e2]
      show (wrow n v k).set (0 + ((k : Int)).toNat) _ = _
      rw [Int.toNat_natCast, Nat.zero_add]; rfl
  · have h := of_decide_eq_false h
    obtain rfl : k = n := by omega
    have e : wrow k v k = U (little k v) := by simp [wrow]
    exact And.intro ⟨congrArg (fun x => some (Blk.arr tU8 1 false 0 (Sq.ts x))) e, rfl, by rw [U_len, little_len]⟩ rfl

set_option maxHeartbeats 4000000 in
theorem append_nil_runs (m v : Nat) (h : 1 ≤ m ∧ m ≤ 8) : Runs Tryd.prog 54 [.nils, .int .i64 m, .int .u64 v] (.tup [oU true (little m v), .t (.int .i64 0)]) := by
  refine Runs.of_call ?_ rfl
  refine CallS.of_fn tab_ok reg_ok Tryd.func54 rfl rfl ?_
  refine CallS.pure (size_runs m) rfl ?_
  refine br_intro (fun hh => ?_) (fun hh => ?_)
  · exact absurd hh (by rw [decide_eq_true (show 1 ≤ (m : Int) ∧ (m : Int) ≤ 8 by omega)]; decide)
  refine CallS.pure (word_runs m v (by omega)) rfl ?_
  refine CallS.of_fn tab_ok reg_ok Tryd.func94 rfl rfl ?_
  have hul := U_len (little m v)
  have hml := little_len m v
  have hs1 : IntKind.i64.wrap (IntKind.i64.wrap (0 + ((0 : Nat) : Int)) + ((U (little m v)).length : Int)) = ((m : Nat) : Int) := by rw [show IntKind.i64.wrap (0 + ((0 : Nat) : Int)) = 0 from rfl, i64_in _ (by omega)]; omega
  have hs3 : IntKind.i64.wrap (IntKind.i64.wrap (IntKind.i64.wrap (0 + ((0 : Nat) : Int)) + ((U (little m v)).length : Int)) - IntKind.i64.wrap (0 - ((0 : Nat) : Int))) = ((m : Nat) : Int) := by rw [hs1, show IntKind.i64.wrap (0 - ((0 : Nat) : Int)) = 0 from rfl, i64_in _ (by omega)]; omega
  refine loop_un 3 ?_
  refine br_intro (fun h => absurd (of_decide_eq_true h) (by rw [hs1]; omega)) (fun _ => ?_)
  refine CallS.of_fn tab_ok reg_ok Tryd.func117 rfl rfl ?_
  refine br_intro (fun h => absurd (of_decide_eq_true h) (by rw [hs1]; omega)) (fun _ => ?_)
  refine br_intro (fun _ => ?_) (fun h => absurd (of_decide_eq_false h) (by rw [hs3]; omega))
  refine ck_intro ?_ ?_
  · show (true && decide (0 < IntKind.i64.wrap (IntKind.i64.wrap (IntKind.i64.wrap (0 + ((0 : Nat) : Int)) + ((U (little m v)).length : Int)) - IntKind.i64.wrap (0 - ((0 : Nat) : Int)))) && fitsRow (IntKind.i64.wrap (IntKind.i64.wrap (IntKind.i64.wrap (0 + ((0 : Nat) : Int)) + ((U (little m v)).length : Int)) - IntKind.i64.wrap (0 - ((0 : Nat) : Int)))).toNat 1 && true && true && true) = true
    rw [hs3, fits1 (by simp; omega), decide_eq_true (by omega)]; rfl
  refine loop_un 3 ?_
  have hz : (List.replicate (IntKind.i64.wrap (IntKind.i64.wrap (IntKind.i64.wrap (0 + ((0 : Nat) : Int)) + ((U (little m v)).length : Int)) - IntKind.i64.wrap (0 - ((0 : Nat) : Int)))).toNat (T.int .u8 0)).length = m := by rw [hs3, Int.toNat_natCast, List.length_replicate]
  have hW : List.take 0 (List.replicate (IntKind.i64.wrap (IntKind.i64.wrap (IntKind.i64.wrap (0 + ((0 : Nat) : Int)) + ((U (little m v)).length : Int)) - IntKind.i64.wrap (0 - ((0 : Nat) : Int)))).toNat (T.int .u8 0)) ++ ([] : List T) ++ List.drop 0 (List.replicate (IntKind.i64.wrap (IntKind.i64.wrap (IntKind.i64.wrap (0 + ((0 : Nat) : Int)) + ((U (little m v)).length : Int)) - IntKind.i64.wrap (0 - ((0 : Nat) : Int)))).toNat (T.int .u8 0)) = List.replicate (IntKind.i64.wrap (IntKind.i64.wrap (IntKind.i64.wrap (0 + ((0 : Nat) : Int)) + ((U (little m v)).length : Int)) - IntKind.i64.wrap (0 - ((0 : Nat) : Int)))).toNat (T.int .u8 0) := by simp
  have hX : List.take (U (little m v)).length (List.drop 0 (U (little m v))) = U (little m v) := by simp
  refine Or.inr (ck_intro ?_ ?_)
  · show (Nat.ble 1 (List.replicate (IntKind.i64.wrap (IntKind.i64.wrap (IntKind.i64.wrap (0 + ((0 : Nat) : Int)) + ((U (little m v)).length : Int)) - IntKind.i64.wrap (0 - ((0 : Nat) : Int)))).toNat (T.int .u8 0)).length && Nat.ble 0 (List.replicate (IntKind.i64.wrap (IntKind.i64.wrap (IntKind.i64.wrap (0 + ((0 : Nat) : Int)) + ((U (little m v)).length : Int)) - IntKind.i64.wrap (0 - ((0 : Nat) : Int)))).toNat (T.int .u8 0)).length) = true
    rw [hz]; simp [Nat.ble_eq]; omega
  refine Or.inr (ck_intro ?_ ?_)
  · show (Nat.ble 1 (List.take 0 (List.replicate (IntKind.i64.wrap (IntKind.i64.wrap (IntKind.i64.wrap (0 + ((0 : Nat) : Int)) + ((U (little m v)).length : Int)) - IntKind.i64.wrap (0 - ((0 : Nat) : Int)))).toNat (T.int .u8 0)) ++ ([] : List T) ++ List.drop 0 (List.replicate (IntKind.i64.wrap (IntKind.i64.wrap (IntKind.i64.wrap (0 + ((0 : Nat) : Int)) + ((U (little m v)).length : Int)) - IntKind.i64.wrap (0 - ((0 : Nat) : Int)))).toNat (T.int .u8 0))).length && Nat.ble (0 + (List.take (U (little m v)).length (List.drop 0 (U (little m v)))).length) (List.take 0 (List.replicate (IntKind.i64.wrap (IntKind.i64.wrap (IntKind.i64.wrap (0 + ((0 : Nat) : Int)) + ((U (little m v)).length : Int)) - IntKind.i64.wrap (0 - ((0 : Nat) : Int)))).toNat (T.int .u8 0)) ++ ([] : List T) ++ List.drop 0 (List.replicate (IntKind.i64.wrap (IntKind.i64.wrap (IntKind.i64.wrap (0 + ((0 : Nat) : Int)) + ((U (little m v)).length : Int)) - IntKind.i64.wrap (0 - ((0 : Nat) : Int)))).toNat (T.int .u8 0))).length) = true
    rw [hW, hX, hz, hul, hml]; simp [Nat.ble_eq]; omega
  have e : List.take 0 (List.take 0 (List.replicate (IntKind.i64.wrap (IntKind.i64.wrap (IntKind.i64.wrap (0 + ((0 : Nat) : Int)) + ((U (little m v)).length : Int)) - IntKind.i64.wrap (0 - ((0 : Nat) : Int)))).toNat (T.int .u8 0)) ++ ([] : List T) ++ List.drop 0 (List.replicate (IntKind.i64.wrap (IntKind.i64.wrap (IntKind.i64.wrap (0 + ((0 : Nat) : Int)) + ((U (little m v)).length : Int)) - IntKind.i64.wrap (0 - ((0 : Nat) : Int)))).toNat (T.int .u8 0))) ++ List.take (U (little m v)).length (List.drop 0 (U (little m v))) ++ List.drop (0 + (List.take (U (little m v)).length (List.drop 0 (U (little m v)))).length) (List.take 0 (List.replicate (IntKind.i64.wrap (IntKind.i64.wrap (IntKind.i64.wrap (0 + ((0 : Nat) : Int)) + ((U (little m v)).length : Int)) - IntKind.i64.wrap (0 - ((0 : Nat) : Int)))).toNat (T.int .u8 0)) ++ ([] : List T) ++ List.drop 0 (List.replicate (IntKind.i64.wrap (IntKind.i64.wrap (IntKind.i64.wrap (0 + ((0 : Nat) : Int)) + ((U (little m v)).length : Int)) - IntKind.i64.wrap (0 - ((0 : Nat) : Int)))).toNat (T.int .u8 0))) = U (little m v) := by
    rw [hW, hX, List.take_zero, List.nil_append, List.drop_of_length_le (by rw [hz, hul, hml]; omega), List.append_nil]
  refine And.intro ⟨⟨congrArg (fun x => some (Blk.arr tU8 1 true 0 (Sq.ts x))) e, rfl, ?_⟩, rfl, trivial⟩ rfl
  show 0 + (List.take (U (little m v)).length (List.drop 0 (U (little m v)))).length = _
  rw [hX]; omega

end Go.Proofs.YthpkehhghcpolaaDoor
