/-
  The law on numbers in bytes.
-/
import Derived.Test.YtddigcnpapfpjaaNumb2
import Derived.Test.YtddigcnpapfpjaaBackLaw
namespace Go.Proofs.Ytddigcnpapfpjaa
open Go.IntWalk
set_option maxRecDepth 100000
set_option linter.unusedVariables false
set_option linter.unusedSimpArgs false

theorem xor_byte (c : UInt8) : ∃ d : UInt8, bitsOp .xor .u8 (c.toNat : Int) 255 = (d.toNat : Int) := by
  have h : IntKind.u8.wrap ((BitVec.ofInt 8 (c.toNat : Int) ^^^ BitVec.ofInt 8 255).toNat : Int) = (((BitVec.ofInt 8 (c.toNat : Int) ^^^ BitVec.ofInt 8 255).toNat : Nat) : Int) := by
    have := (BitVec.ofInt 8 (c.toNat : Int) ^^^ BitVec.ofInt 8 255).isLt
    rw [IntKind.wrap_u8]; omega
  refine ⟨UInt8.ofNat (BitVec.ofInt 8 (c.toNat : Int) ^^^ BitVec.ofInt 8 255).toNat, ?_⟩
  show IntKind.u8.wrap ((BitVec.ofInt 8 (c.toNat : Int) ^^^ BitVec.ofInt 8 255).toNat : Int) = _
  rw [h, UInt8.toNat_ofNat_of_lt' (by have h2 := (BitVec.ofInt 8 (c.toNat : Int) ^^^ BitVec.ofInt 8 255).isLt; exact h2)]

theorem U_set (l : List UInt8) (k : Nat) (d : UInt8) : (U l).set k (.int .u8 (d.toNat : Int)) = U (l.set k d) := by simp [U, List.map_set]

def numS (x : T) (bs q : List UInt8) (np : Nat) (al : List UInt8 × Nat) : St :=
  ⟨[(0, .t x), (7, .sl 0 0 0 bs.length), (12, .sl 1 0 0 np), (16, .sl 2 0 0 q.length), (126, .t (.int .i64 np)), (127, .t (.int .i64 al.2))],
    [.arr tU8 1 false 0 (.ts (U bs)), .arr tU8 1 false 0 (.ts (U al.1)), .arr tU8 1 true 0 (.ts (U q))]⟩
def numS2 (x : T) (bs : List UInt8) (nq : Nat) (al : List UInt8 × Nat) : St :=
  ⟨[(0, .t x), (7, .sl 0 0 0 bs.length), (16, .sl 1 0 0 nq), (138, .t (.int .i64 nq)), (139, .t (.int .i64 al.2))],
    [.arr tU8 1 false 0 (.ts (U bs)), .arr tU8 1 true 0 (.ts (U al.1))]⟩

theorem next_int {k : Nat} (h : k < 9223372036854775807) : IntKind.i64.wrap ((k : Int) + 1) = ((k + 1 : Nat) : Int) := i64_in _ (by omega)

/-- Where what is asked lies there. -/
theorem numThere (bs : List UInt8) (hb : bs.length ≤ 140737488351232) (a n : Int) (ha : -9223372036854775808 ≤ a) (hn : -9223372036854775808 ≤ n) (v : Nat) (hv : v < 18446744073709551616) (hT : There bs.length a n) :
    Runs Try.prog 6 [.vec 1 (U bs), .agg [.int .i64 a, .int .i64 n], .int .u64 v] (.t (.bool true)) := by
  have ht : List.take (0 + (U bs).length) (List.drop 0 ([] ++ U bs)) = U bs := by simp
  have hG := get_runs bs (by omega) a n
  have hG2 := refGet_runs (.vec bs (U bs) rfl) hb a n ha hn
  have hP := put_runs bs hb a n v
  have hP2 := refPut_runs (.vec bs (U bs) rfl) hb a n ha hn v hv
  have hA := append_runs bs hb n v hv
  rw [getR, if_pos hT] at hG hG2
  rw [putR, if_pos hT] at hP hP2
  obtain ⟨⟨hn1, hn2⟩, ha0, hin⟩ := hT
  rw [appR, if_pos ⟨hn1, hn2⟩] at hA
  obtain ⟨m, rfl⟩ := Int.eq_ofNat_of_zero_le (show 0 ≤ n by omega)
  obtain ⟨p, rfl⟩ := Int.eq_ofNat_of_zero_le ha0
  have hpl := putL_len bs ((p : Int)).toNat ((m : Int)).toNat v (by simp only [Int.toNat_natCast]; omega)
  generalize putL bs ((p : Int)).toNat ((m : Int)).toNat v = pl at hP hP2 hpl
  generalize (le (part bs (p : Int) (m : Int)) : Int) = g at hG hG2
  have hql : (bs ++ little ((m : Int)).toNat v).length = bs.length + m := by rw [List.length_append, little_len, Int.toNat_natCast]
  generalize hq : bs ++ little ((m : Int)).toNat v = q at hA hql
  obtain ⟨c, q', rfl⟩ : ∃ c q', q = c :: q' := by
    cases q with
    | nil => simp at hql; omega
    | cons c q' => exact ⟨c, q', rfl⟩
  rw [← ht] at hG hP hA
  refine Runs.of_call ?_ rfl
  refine CallS.of_fn tab_ok reg_ok Try.func6 rfl rfl ?_
  refine CallS.pure alive_runs rfl ?_
  refine Or.inl (And.intro rfl (ck_intro (fits1 (n := 0 + (U bs).length) (by rw [U_len]; omega)) ?_))
  refine CallS.snap hG rfl ⟨rfl, rfl, trivial⟩ ?_
  refine CallS.pure hG2 rfl ?_
  refine CallS.snap hP rfl ⟨oU_flat false _, rfl, trivial⟩ ?_
  refine CallS.pure hP2 rfl ?_
  refine br_intro (fun h => by simp at h) (fun _ => ?_)
  have htp : List.take (U pl).length (List.drop 0 (U pl)) = U pl := by simp
  have hS := same_runs (.vec pl (U pl) rfl) (.vec pl (U pl) rfl)
  rw [show (pl == pl) = true by simp, ← htp] at hS
  refine CallS.snap hS rfl rfl ?_
  refine CallS.snap hA rfl ⟨oU_flat true _, rfl, trivial⟩ ?_
  refine br_intro (fun h => absurd (of_decide_eq_true h) (by omega)) (fun _ => ?_)
  refine br_intro (fun h => absurd (of_decide_eq_true h) (by omega)) (fun _ => ?_)
  refine draw_introX [5] [(0, false), (1, false), (2, false), (3, false), (4, false), (5, false), (7, false), (8, false), (9, false), (6, false), (10, false), (11, false), (12, true), (13, false), (14, false)] (by decide +kernel) ?_
  refine Or.inl (And.intro rfl (ck_intro (fits1 (n := 0 + (U bs).length) (by rw [U_len]; omega)) (And.intro (LeX.set (D := [5]) (b := 5) _ (List.mem_singleton.2 rfl)) ?_)))
  refine CallS.pure (little_runs m v (by omega) hv) rfl (And.intro (LeX.append _ _ _) ?_)
  refine Or.inl (And.intro ?_ (ck_intro (fits1 ?_) (And.intro (LeX.set (D := [5]) (b := 5) _ (List.mem_singleton.2 rfl)) ?_)))
  · show 0 + (U bs).length = ([] ++ U bs).length
    simp
  · show 0 + (U bs).length + (List.take (U (little m v)).length (List.drop 0 (U (little m v)))).length ≤ _
    have := U_len bs; have := U_len (little m v); have := little_len m v
    simp; omega
  have hS2 := same_runs (.vec (c :: q') (List.take (U (c :: q')).length (List.drop 0 (U (c :: q')))) (by rw [List.drop_zero, List.take_length])) (.vec (c :: q') (List.take (0 + (U bs).length + (List.take (U (little m v)).length (List.drop 0 (U (little m v)))).length) (List.drop 0 (([] ++ U bs) ++ (List.take (U (little m v)).length (List.drop 0 (U (little m v))))))) (by
    rw [← hq, Int.toNat_natCast, U_app, List.drop_zero, List.drop_zero, List.take_length, List.nil_append, Nat.zero_add, ← List.length_append, List.take_length]))
  rw [show ((c :: q') == (c :: q')) = true by simp] at hS2
  refine CallS.snap hS2 rfl rfl ?_
  refine loop_on (fun al : List UInt8 × Nat => al.1.length = pl.length ∧ al.2 ≤ pl.length) (numS (.vec 1 (U bs)) bs (c :: q') pl.length) (fun al => pl.length - al.2) (pl, 0) ⟨rfl, Nat.zero_le _⟩ (weak_gc [1, 2, 4] rfl ⟨rfl, ?_, ?_, ?_, ?_, rfl, trivial⟩ ⟨rfl, rfl, rfl, trivial⟩) (fun al hal => ?_)
  · exact congrArg (fun n : Nat => some (AV.sl 0 0 0 n)) (show 0 + (U bs).length = bs.length by rw [U_len]; omega)
  · exact congrArg (fun n : Nat => some (AV.sl 1 0 0 n)) (U_len pl)
  · exact congrArg (fun n : Nat => some (AV.sl 2 0 0 n)) (U_len (c :: q'))
  · exact congrArg (fun n : Nat => some (AV.t (.int .i64 n))) (U_len pl)
  obtain ⟨l, k⟩ := al
  obtain ⟨hl, hk⟩ := hal
  simp only at hl hk
  refine br_intro (fun h => ?_) (fun h => ?_)
  · have h : (k : Int) < (pl.length : Nat) := of_decide_eq_true h
    have hkl : k < l.length := by omega
    have hin : inB (k : Int) pl.length = true := by simp only [inB, Bool.and_eq_true, decide_eq_true_eq]; omega
    have hg : (U l)[0 + ((k : Int)).toNat]? = some (T.int .u8 ((l[k]'hkl).toNat : Int)) := by
      rw [Int.toNat_natCast, Nat.zero_add]; exact U_get l k hkl
    obtain ⟨d, hd⟩ := xor_byte (l[k]'hkl)
    refine ck_intro hin ?_
    refine opt_intro hg ?_
    refine ck_intro hin ?_
    refine opt_intro hg ?_
    refine ⟨⟨(l.set k d, k + 1), by simp [hl], by show k + 1 ≤ _; omega⟩, weak_of ⟨rfl, rfl, rfl, rfl, rfl, congrArg (fun x => AV.t (.int .i64 x)) (next_int (by omega)), trivial⟩ ?_, by show pl.length - (k + 1) < pl.length - k; omega⟩
    refine congrArg (fun x => [Blk.arr tU8 1 false 0 (.ts (U bs)), Blk.arr tU8 1 false 0 (.ts x), Blk.arr tU8 1 true 0 (.ts (U (c :: q')))]) ?_
    rw [← U_set, ← hd]
    show (U l).set (0 + ((k : Int)).toNat) _ = _
    rw [Int.toNat_natCast, Nat.zero_add]; rfl
  clear h hk hl
  refine loop_on (fun al : List UInt8 × Nat => al.1.length = (c :: q').length ∧ al.2 ≤ (c :: q').length) (numS2 (.vec 1 (U bs)) bs (c :: q').length) (fun al => (c :: q').length - al.2) ((c :: q'), 0) ⟨rfl, Nat.zero_le _⟩ (weak_gc [0, 2] rfl ⟨rfl, rfl, rfl, rfl, rfl, trivial⟩ ⟨rfl, rfl, trivial⟩) (fun al hal => ?_)
  obtain ⟨l, k⟩ := al
  obtain ⟨hl, hk⟩ := hal
  simp only at hl hk
  refine br_intro (fun h => ?_) (fun h => ?_)
  · have h : (k : Int) < ((c :: q').length : Nat) := of_decide_eq_true h
    have hkl : k < l.length := by omega
    have hin : inB (k : Int) (c :: q').length = true := by simp only [inB, Bool.and_eq_true, decide_eq_true_eq]; omega
    have hg : (U l)[0 + ((k : Int)).toNat]? = some (T.int .u8 ((l[k]'hkl).toNat : Int)) := by
      rw [Int.toNat_natCast, Nat.zero_add]; exact U_get l k hkl
    obtain ⟨d, hd⟩ := xor_byte (l[k]'hkl)
    refine ck_intro hin ?_
    refine opt_intro hg ?_
    refine ck_intro hin ?_
    refine opt_intro hg ?_
    refine ⟨⟨(l.set k d, k + 1), by simp [hl], by show k + 1 ≤ _; omega⟩, weak_of ⟨rfl, rfl, rfl, rfl, congrArg (fun x => AV.t (.int .i64 x)) (next_int (by omega)), trivial⟩ ?_, by show (c :: q').length - (k + 1) < (c :: q').length - k; omega⟩
    refine congrArg (fun x => [Blk.arr tU8 1 false 0 (.ts (U bs)), Blk.arr tU8 1 true 0 (.ts x)]) ?_
    rw [← U_set, ← hd]
    show (U l).set (0 + ((k : Int)).toNat) _ = _
    rw [Int.toNat_natCast, Nat.zero_add]; rfl
  clear h hk hl
  have hS3 := same_runs (.vec bs (List.take bs.length (List.drop 0 (U bs))) (by rw [List.drop_zero, ← U_len bs, List.take_length])) (.vec bs (U bs) rfl)
  rw [show (bs == bs) = true by simp] at hS3
  refine CallS.snap hS3 rfl rfl ?_
  exact And.intro rfl rfl

/-- Where what is asked doesn't lie there. -/
theorem numNot (bs : List UInt8) (hb : bs.length ≤ 140737488351232) (a n : Int) (ha : -9223372036854775808 ≤ a) (hn : -9223372036854775808 ≤ n) (v : Nat) (hv : v < 18446744073709551616) (hT : ¬ There (bs : List UInt8).length a n) :
    Runs Try.prog 6 [.vec 1 (U bs), .agg [.int .i64 a, .int .i64 n], .int .u64 v] (.t (.bool true)) := by
  have ht : List.take (0 + (U bs).length) (List.drop 0 ([] ++ U bs)) = U bs := by simp
  have hG := get_runs bs (by omega) a n
  have hG2 := refGet_runs (.vec bs (U bs) rfl) hb a n ha hn
  have hP := put_runs bs hb a n v
  have hP2 := refPut_runs (.vec bs (U bs) rfl) hb a n ha hn v hv
  have hA := append_runs bs hb n v hv
  have hS3 := same_runs (.vec bs (List.take (0 + (U bs).length) (List.drop 0 ([] ++ U bs))) ht) (.vec bs (U bs) rfl)
  rw [show ((bs : List UInt8) == bs) = true by simp] at hS3
  rw [getR, if_neg hT] at hG hG2
  rw [putR, if_neg hT] at hP hP2
  rw [← ht] at hG hP
  refine Runs.of_call ?_ rfl
  refine CallS.of_fn tab_ok reg_ok Try.func6 rfl rfl ?_
  refine CallS.pure alive_runs rfl ?_
  refine Or.inl (And.intro rfl (ck_intro (fits1 (n := 0 + (U bs).length) (by rw [U_len]; omega)) ?_))
  refine CallS.snap hG rfl ⟨rfl, rfl, trivial⟩ ?_
  refine CallS.pure hG2 rfl ?_
  refine CallS.snap hP rfl ⟨oU_flat true [], rfl, trivial⟩ ?_
  refine CallS.pure hP2 rfl ?_
  refine CallS.snap (same_runs .nil .nil) rfl rfl ?_
  by_cases hm : 1 ≤ n ∧ n ≤ 8
  rotate_left
  · rw [appR, if_neg hm] at hA
    rw [← ht] at hA
    refine CallS.snap hA rfl ⟨oU_flat true [], rfl, trivial⟩ ?_
    refine br_intro (fun h => ?_) (fun h => ?_)
    · refine CallS.snap hS3 rfl rfl ?_
      exact And.intro rfl rfl
    have h := of_decide_eq_false h
    refine br_intro (fun h2 => ?_) (fun h2 => absurd (of_decide_eq_false h2) (by omega))
    refine CallS.snap hS3 rfl rfl ?_
    exact And.intro rfl rfl
  rw [appR, if_pos hm] at hA
  obtain ⟨hn1, hn2⟩ := hm
  obtain ⟨m, rfl⟩ := Int.eq_ofNat_of_zero_le (show 0 ≤ n by omega)
  have hql : (bs ++ little ((m : Int)).toNat v).length = bs.length + m := by rw [List.length_append, little_len, Int.toNat_natCast]
  generalize hq : bs ++ little ((m : Int)).toNat v = q at hA hql
  obtain ⟨c, q', rfl⟩ : ∃ c q', q = c :: q' := by
    cases q with
    | nil => simp at hql; omega
    | cons c q' => exact ⟨c, q', rfl⟩
  rw [← ht] at hA
  refine CallS.snap hA rfl ⟨oU_flat true _, rfl, trivial⟩ ?_
  refine br_intro (fun h => absurd (of_decide_eq_true h) (by omega)) (fun _ => ?_)
  refine br_intro (fun h => absurd (of_decide_eq_true h) (by omega)) (fun _ => ?_)
  refine draw_introX [5] [(0, false), (1, false), (2, false), (3, false), (4, false), (5, false), (7, false), (8, false), (9, false), (6, false), (10, false), (11, false), (12, true), (13, false), (14, false)] (by decide +kernel) ?_
  refine Or.inl (And.intro rfl (ck_intro (fits1 (n := 0 + (U bs).length) (by rw [U_len]; omega)) (And.intro (LeX.set (D := [5]) (b := 5) _ (List.mem_singleton.2 rfl)) ?_)))
  refine CallS.pure (little_runs m v (by omega) hv) rfl (And.intro (LeX.append _ _ _) ?_)
  refine Or.inl (And.intro ?_ (ck_intro (fits1 ?_) (And.intro (LeX.set (D := [5]) (b := 5) _ (List.mem_singleton.2 rfl)) ?_)))
  · show 0 + (U bs).length = ([] ++ U bs).length
    simp
  · show 0 + (U bs).length + (List.take (U (little m v)).length (List.drop 0 (U (little m v)))).length ≤ _
    have := U_len bs; have := U_len (little m v); have := little_len m v
    simp; omega
  have hS2 := same_runs (.vec (c :: q') (List.take (U (c :: q')).length (List.drop 0 (U (c :: q')))) (by rw [List.drop_zero, List.take_length])) (.vec (c :: q') (List.take (0 + (U bs).length + (List.take (U (little m v)).length (List.drop 0 (U (little m v)))).length) (List.drop 0 (([] ++ U bs) ++ (List.take (U (little m v)).length (List.drop 0 (U (little m v))))))) (by
    rw [← hq, Int.toNat_natCast, U_app, List.drop_zero, List.drop_zero, List.take_length, List.nil_append, Nat.zero_add, ← List.length_append, List.take_length]))
  rw [show ((c :: q') == (c :: q')) = true by simp] at hS2
  refine CallS.snap hS2 rfl rfl ?_
  refine loop_un 1 ?_
  refine loop_on (fun al : List UInt8 × Nat => al.1.length = (c :: q').length ∧ al.2 ≤ (c :: q').length) (numS2 (.vec 1 (U bs)) bs (c :: q').length) (fun al => (c :: q').length - al.2) ((c :: q'), 0) ⟨rfl, Nat.zero_le _⟩ (weak_gc [1, 4] rfl ⟨rfl, ?_, ?_, ?_, rfl, trivial⟩ ⟨rfl, rfl, trivial⟩) (fun al hal => ?_)
  · exact congrArg (fun n : Nat => some (AV.sl 0 0 0 n)) (show 0 + (U bs).length = bs.length by rw [U_len]; omega)
  · exact congrArg (fun n : Nat => some (AV.sl 1 0 0 n)) (U_len (c :: q'))
  · exact congrArg (fun n : Nat => some (AV.t (.int .i64 n))) (U_len (c :: q'))
  obtain ⟨l, k⟩ := al
  obtain ⟨hl, hk⟩ := hal
  simp only at hl hk
  refine br_intro (fun h => ?_) (fun h => ?_)
  · have h : (k : Int) < ((c :: q').length : Nat) := of_decide_eq_true h
    have hkl : k < l.length := by omega
    have hin : inB (k : Int) (c :: q').length = true := by simp only [inB, Bool.and_eq_true, decide_eq_true_eq]; omega
    have hg : (U l)[0 + ((k : Int)).toNat]? = some (T.int .u8 ((l[k]'hkl).toNat : Int)) := by
      rw [Int.toNat_natCast, Nat.zero_add]; exact U_get l k hkl
    obtain ⟨d, hd⟩ := xor_byte (l[k]'hkl)
    refine ck_intro hin ?_
    refine opt_intro hg ?_
    refine ck_intro hin ?_
    refine opt_intro hg ?_
    refine ⟨⟨(l.set k d, k + 1), by simp [hl], by show k + 1 ≤ _; omega⟩, weak_of ⟨rfl, rfl, rfl, rfl, congrArg (fun x => AV.t (.int .i64 x)) (next_int (by omega)), trivial⟩ ?_, by show (c :: q').length - (k + 1) < (c :: q').length - k; omega⟩
    refine congrArg (fun x => [Blk.arr tU8 1 false 0 (.ts (U bs)), Blk.arr tU8 1 true 0 (.ts x)]) ?_
    rw [← U_set, ← hd]
    show (U l).set (0 + ((k : Int)).toNat) _ = _
    rw [Int.toNat_natCast, Nat.zero_add]; rfl
  clear h hk hl
  have hS3 := same_runs (.vec bs (List.take bs.length (List.drop 0 (U bs))) (by rw [List.drop_zero, ← U_len bs, List.take_length])) (.vec bs (U bs) rfl)
  rw [show (bs == bs) = true by simp] at hS3
  refine CallS.snap hS3 rfl rfl ?_
  exact And.intro rfl rfl

/-- Where what is asked doesn't lie there. -/
theorem numNil (a n : Int) (ha : -9223372036854775808 ≤ a) (hn : -9223372036854775808 ≤ n) (v : Nat) (hv : v < 18446744073709551616) (hT : ¬ There ([] : List UInt8).length a n) :
    Runs Try.prog 6 [.nils, .agg [.int .i64 a, .int .i64 n], .int .u64 v] (.t (.bool true)) := by
  have hG := get_runs [] (by decide) a n
  have hG2 := refGet_runs .nil (by decide) a n ha hn
  have hP := put_runs [] (by decide) a n v
  have hP2 := refPut_runs .nil (by decide) a n ha hn v hv
  have hA := append_runs [] (by decide) n v hv
  have hS3 := same_runs (.vec [] [] rfl) .nil
  rw [show (([] : List UInt8) == []) = true by simp] at hS3
  rw [getR, if_neg hT] at hG hG2
  rw [putR, if_neg hT] at hP hP2
  refine Runs.of_call ?_ rfl
  refine CallS.of_fn tab_ok reg_ok Try.func6 rfl rfl ?_
  refine CallS.pure alive_runs rfl ?_
  refine Or.inl (And.intro rfl (ck_intro (by decide) ?_))
  refine CallS.snap hG rfl ⟨rfl, rfl, trivial⟩ ?_
  refine CallS.pure hG2 rfl ?_
  refine CallS.snap hP rfl ⟨oU_flat true [], rfl, trivial⟩ ?_
  refine CallS.pure hP2 rfl ?_
  refine CallS.snap (same_runs .nil .nil) rfl rfl ?_
  by_cases hm : 1 ≤ n ∧ n ≤ 8
  rotate_left
  · rw [appR, if_neg hm] at hA
    refine CallS.snap hA rfl ⟨oU_flat true [], rfl, trivial⟩ ?_
    refine br_intro (fun h => ?_) (fun h => ?_)
    · refine CallS.snap hS3 rfl rfl ?_
      exact And.intro rfl rfl
    have h := of_decide_eq_false h
    refine br_intro (fun h2 => ?_) (fun h2 => absurd (of_decide_eq_false h2) (by omega))
    refine CallS.snap hS3 rfl rfl ?_
    exact And.intro rfl rfl
  rw [appR, if_pos hm] at hA
  obtain ⟨hn1, hn2⟩ := hm
  obtain ⟨m, rfl⟩ := Int.eq_ofNat_of_zero_le (show 0 ≤ n by omega)
  have hql : ([] ++ little ((m : Int)).toNat v).length = m := by rw [List.length_append, little_len, Int.toNat_natCast]; exact Nat.zero_add _
  generalize hq : [] ++ little ((m : Int)).toNat v = q at hA hql
  obtain ⟨c, q', rfl⟩ : ∃ c q', q = c :: q' := by
    cases q with
    | nil => simp at hql; omega
    | cons c q' => exact ⟨c, q', rfl⟩

  refine CallS.snap hA rfl ⟨oU_flat true _, rfl, trivial⟩ ?_
  refine br_intro (fun h => absurd (of_decide_eq_true h) (by omega)) (fun _ => ?_)
  refine br_intro (fun h => absurd (of_decide_eq_true h) (by omega)) (fun _ => ?_)
  refine draw_introX [5] [(0, false), (1, false), (2, false), (3, false), (4, false), (5, false), (7, false), (8, false), (9, false), (6, false), (10, false), (11, false), (12, true), (13, false), (14, false)] (by decide +kernel) ?_
  refine Or.inl (And.intro rfl (ck_intro (by decide) (And.intro (LeX.set (D := [5]) (b := 5) _ (List.mem_singleton.2 rfl)) ?_)))
  refine CallS.pure (little_runs m v (by omega) hv) rfl (And.intro (LeX.append _ _ _) ?_)
  refine Or.inl (And.intro ?_ (ck_intro (fits1 ?_) (And.intro (LeX.set (D := [5]) (b := 5) _ (List.mem_singleton.2 rfl)) ?_)))
  · show 0 + (U []).length = ([] ++ U []).length
    simp
  · show 0 + (U []).length + (List.take (U (little m v)).length (List.drop 0 (U (little m v)))).length ≤ _
    have := U_len (little m v); have := little_len m v
    simp [U]; omega
  have hS2 := same_runs (.vec (c :: q') (List.take (U (c :: q')).length (List.drop 0 (U (c :: q')))) (by rw [List.drop_zero, List.take_length])) (.vec (c :: q') (List.take (0 + (U []).length + (List.take (U (little m v)).length (List.drop 0 (U (little m v)))).length) (List.drop 0 (([] ++ U []) ++ (List.take (U (little m v)).length (List.drop 0 (U (little m v))))))) (by
    rw [← hq, Int.toNat_natCast, U_app, List.drop_zero, List.drop_zero, List.take_length, List.nil_append, Nat.zero_add, ← List.length_append, List.take_length]))
  rw [show ((c :: q') == (c :: q')) = true by simp] at hS2
  refine CallS.snap hS2 rfl rfl ?_
  refine loop_un 1 ?_
  refine loop_on (fun al : List UInt8 × Nat => al.1.length = (c :: q').length ∧ al.2 ≤ (c :: q').length) (numS2 .nils [] (c :: q').length) (fun al => (c :: q').length - al.2) ((c :: q'), 0) ⟨rfl, Nat.zero_le _⟩ (weak_gc [1, 4] rfl ⟨rfl, ?_, ?_, ?_, rfl, trivial⟩ ⟨rfl, rfl, trivial⟩) (fun al hal => ?_)
  · rfl
  · exact congrArg (fun n : Nat => some (AV.sl 1 0 0 n)) (U_len (c :: q'))
  · exact congrArg (fun n : Nat => some (AV.t (.int .i64 n))) (U_len (c :: q'))
  obtain ⟨l, k⟩ := al
  obtain ⟨hl, hk⟩ := hal
  simp only at hl hk
  refine br_intro (fun h => ?_) (fun h => ?_)
  · have h : (k : Int) < ((c :: q').length : Nat) := of_decide_eq_true h
    have hkl : k < l.length := by omega
    have hin : inB (k : Int) (c :: q').length = true := by simp only [inB, Bool.and_eq_true, decide_eq_true_eq]; omega
    have hg : (U l)[0 + ((k : Int)).toNat]? = some (T.int .u8 ((l[k]'hkl).toNat : Int)) := by
      rw [Int.toNat_natCast, Nat.zero_add]; exact U_get l k hkl
    obtain ⟨d, hd⟩ := xor_byte (l[k]'hkl)
    refine ck_intro hin ?_
    refine opt_intro hg ?_
    refine ck_intro hin ?_
    refine opt_intro hg ?_
    refine ⟨⟨(l.set k d, k + 1), by simp [hl], by show k + 1 ≤ _; omega⟩, weak_of ⟨rfl, rfl, rfl, rfl, congrArg (fun x => AV.t (.int .i64 x)) (next_int (by omega)), trivial⟩ ?_, by show (c :: q').length - (k + 1) < (c :: q').length - k; omega⟩
    refine congrArg (fun x => [Blk.arr tU8 1 false 0 (.ts (U [])), Blk.arr tU8 1 true 0 (.ts x)]) ?_
    rw [← U_set, ← hd]
    show (U l).set (0 + ((k : Int)).toNat) _ = _
    rw [Int.toNat_natCast, Nat.zero_add]; rfl
  clear h hk hl
  have hS3 := same_runs (.vec [] [] rfl) .nil
  rw [show (([] : List UInt8) == []) = true by simp] at hS3
  refine CallS.snap hS3 rfl rfl ?_
  exact And.intro rfl rfl

theorem numbersLaw (c0 : List T) (h0 : HasT Try.prog 29 c0) (c1 : List T) (h1 : HasT Try.prog 35 c1) (c2 : List T) (h2 : HasT Try.prog 36 c2) :
    Runs Try.prog 6 [argOf Try.prog 29 c0, argOf Try.prog 35 c1, argOf Try.prog 36 c2] (.t (.bool true)) := by
  obtain ⟨a, n, e1, ha, hn⟩ := pair_arg h1
  obtain ⟨v, e2, hv⟩ := u64_arg h2
  rw [e1, e2]
  rcases bytes_arg h0 with e0 | ⟨bs, hb, e0⟩
  · rw [e0]
    exact numNil a n ha.1 hn.1 v hv (fun hh => by have := hh.1; have := hh.2; simp at this; omega)
  rw [e0]
  by_cases hT : There bs.length a n
  · exact numThere bs hb a n ha.1 hn.1 v hv hT
  · exact numNot bs hb a n ha.1 hn.1 v hv hT

end Go.Proofs.Ytddigcnpapfpjaa
