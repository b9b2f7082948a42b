/-
  Put and Same of the document; Append.
-/
import Derived.Test.YtddigcnpapfpjaaNumb
namespace Go.Proofs.Ytddigcnpapfpjaa
open Go.IntWalk
set_option maxRecDepth 100000
set_option linter.unusedVariables false
set_option linter.unusedSimpArgs false

theorem same_runs {x y : T} {a b : List UInt8} (hx : BX x a) (hy : BX y b) : Runs Try.prog 16 [x, y] (.t (.bool (a == b))) := by
  cases hx with
  | vec a L h =>
    subst h
    cases hy with
    | vec b L h =>
      subst h
      refine Runs.of_call ?_ rfl
      refine CallS.of_fn tab_ok reg_ok Try.func16 rfl rfl ?_
      refine ⟨a, rfl, ?_⟩
      refine ⟨b, rfl, ?_⟩
      exact And.intro rfl rfl
    | nil =>
      refine Runs.of_call ?_ rfl
      refine CallS.of_fn tab_ok reg_ok Try.func16 rfl rfl ?_
      refine ⟨a, rfl, ?_⟩
      exact And.intro rfl rfl
  | nil =>
    cases hy with
    | vec b L h =>
      subst h
      refine Runs.of_call ?_ rfl
      refine CallS.of_fn tab_ok reg_ok Try.func16 rfl rfl ?_
      refine ⟨b, rfl, ?_⟩
      exact And.intro rfl rfl
    | nil =>
      refine Runs.of_call ?_ rfl
      refine CallS.of_fn tab_ok reg_ok Try.func16 rfl rfl ?_
      exact And.intro rfl rfl

theorem refPut_runs {x : T} {bs : List UInt8} (hx : BX x bs) (hb : bs.length ≤ 140737488351232) (at_ n : Int) (hat : -9223372036854775808 ≤ at_) (hn : -9223372036854775808 ≤ n) (v : Nat) (hv : v < 18446744073709551616) :
    Runs Try.prog 15 [x, .int .i64 at_, .int .i64 n, .int .u64 v] (putR bs at_ n v) := by
  have hH := has_runs hx hb at_ n hat hn
  by_cases h : There bs.length at_ n
  · cases hx with
    | nil => exact absurd h (fun hh => by have := hh.1; have := hh.2; simp at this; omega)
    | vec bs L e =>
      subst e
      obtain ⟨a, rfl⟩ := Int.eq_ofNat_of_zero_le h.2.1
      obtain ⟨m, rfl⟩ := Int.eq_ofNat_of_zero_le (show 0 ≤ n by have := h.1; omega)
      rw [putR, if_pos h]
      rw [decide_eq_true h] at hH
      obtain ⟨⟨h1, h2⟩, _, h4⟩ := h
      have hl := U_len bs
      have hml := little_len m v
      refine Runs.of_call ?_ rfl
      refine CallS.of_fn tab_ok reg_ok Try.func15 rfl rfl ?_
      refine CallS.pure hH rfl ?_
      refine ck_intro (by rw [U_len]; simp; omega) ?_
      refine Or.inl (And.intro rfl (ck_intro (fits1 ?_) ?_))
      · simp [Sq.length]; omega
      refine CallS.pure (little_runs m v (by omega) hv) rfl ?_
      have hul := U_len (little m v)
      have hsum : IntKind.i64.wrap ((a : Int) + m) = ((a + m : Nat) : Int) := by rw [i64_in _ (by omega)]; omega
      refine Or.inl (And.intro ?_ (ck_intro (fits1 ?_) ?_))
      · show 0 + (List.take (((a : Int)).toNat - 0) (List.drop 0 (U bs))).length = ([] ++ List.take (((a : Int)).toNat - 0) (List.drop 0 (U bs))).length
        simp
      · show 0 + (List.take (((a : Int)).toNat - 0) (List.drop 0 (U bs))).length + (List.take (U (little m v)).length (List.drop 0 (U (little m v)))).length ≤ _
        simp; omega
      refine ck_intro (by rw [hsum, U_len]; simp; omega) ?_
      refine Or.inl (And.intro ?_ (ck_intro (fits1 ?_) ?_))
      · show 0 + (List.take (((a : Int)).toNat - 0) (List.drop 0 (U bs))).length + (List.take (U (little m v)).length (List.drop 0 (U (little m v)))).length = (([] ++ List.take (((a : Int)).toNat - 0) (List.drop 0 (U bs))) ++ List.take (U (little m v)).length (List.drop 0 (U (little m v)))).length
        simp
      · show 0 + (List.take (((a : Int)).toNat - 0) (List.drop 0 (U bs))).length + (List.take (U (little m v)).length (List.drop 0 (U (little m v)))).length + (List.take ((U bs).length - (IntKind.i64.wrap ((a : Int) + m)).toNat) (List.drop (IntKind.i64.wrap ((a : Int) + m)).toNat (U bs))).length ≤ _
        rw [hsum]
        simp; omega
      have e : (([] ++ List.take (((a : Int)).toNat - 0) (List.drop 0 (U bs))) ++ List.take (U (little m v)).length (List.drop 0 (U (little m v)))) ++ List.take ((U bs).length - (IntKind.i64.wrap ((a : Int) + m)).toNat) (List.drop (IntKind.i64.wrap ((a : Int) + m)).toNat (U bs)) = U (putL bs ((a : Int)).toNat ((m : Int)).toNat v) := by
        rw [hsum]
        simp only [Int.toNat_natCast, Nat.sub_zero, List.drop_zero, List.nil_append, List.take_length]
        rw [show (U bs).length - (a + m) = (List.drop (a + m) (U bs)).length by simp, List.take_length, putL, U_app, U_app, U_take, U_drop]
      refine And.intro ⟨⟨congrArg (fun x => some (Blk.arr tU8 1 false 3 (Sq.ts x))) e, rfl, ?_⟩, rfl, trivial⟩ rfl
      · rw [← e]
        show 0 + (List.take (((a : Int)).toNat - 0) (List.drop 0 (U bs))).length + (List.take (U (little m v)).length (List.drop 0 (U (little m v)))).length + (List.take ((U bs).length - (IntKind.i64.wrap ((a : Int) + m)).toNat) (List.drop (IntKind.i64.wrap ((a : Int) + m)).toNat (U bs))).length = _
        rw [List.length_append, List.length_append, List.length_append, List.length_nil]
  · rw [putR, if_neg h]
    rw [decide_eq_false h] at hH
    cases hx with
    | nil =>
      refine Runs.of_call ?_ rfl
      refine CallS.of_fn tab_ok reg_ok Try.func15 rfl rfl ?_
      refine CallS.pure hH rfl ?_
      exact And.intro ⟨⟨rfl, rfl, rfl⟩, rfl, trivial⟩ rfl
    | vec bs L e =>
      subst e
      refine Runs.of_call ?_ rfl
      refine CallS.of_fn tab_ok reg_ok Try.func15 rfl rfl ?_
      refine CallS.pure hH rfl ?_
      exact And.intro ⟨⟨rfl, rfl, rfl⟩, rfl, trivial⟩ rfl

def appR (bs : List UInt8) (n : Int) (v : Nat) : AV :=
  if 1 ≤ n ∧ n ≤ 8 then .tup [oU true (bs ++ little n.toNat v), .t (.int .i64 0)] else .tup [oU true [], .t (.int .i64 21)]

theorem append_runs (bs : List UInt8) (hb : bs.length ≤ 140737488351232) (n : Int) (v : Nat) (hv : v < 18446744073709551616) :
    Runs Try.prog 17 [.vec 1 (U bs), .int .i64 n, .int .u64 v] (appR bs n v) := by
  refine Runs.of_call ?_ (by unfold appR; split <;> rfl)
  refine CallS.of_fn tab_ok reg_ok Try.func17 rfl rfl ?_
  refine CallS.pure (size_runs n) rfl ?_
  refine br_intro (fun h => ?_) (fun h => ?_)
  · have h : ¬ (1 ≤ n ∧ n ≤ 8) := by intro hh; simp [hh] at h
    rw [appR, if_neg h]
    exact And.intro ⟨⟨rfl, rfl, rfl⟩, rfl, trivial⟩ rfl
  have h : 1 ≤ n ∧ n ≤ 8 := by simpa using h
  obtain ⟨m, rfl⟩ := Int.eq_ofNat_of_zero_le (show 0 ≤ n by omega)
  rw [appR, if_pos h]
  refine CallS.pure (word_runs m v (by omega)) rfl ?_
  refine CallS.of_fn tab_ok reg_ok Try.func26 rfl rfl ?_
  have hl := U_len bs
  have hul := U_len (little m v)
  have hml := little_len m v
  have hs1 : IntKind.i64.wrap (0 + ((U bs).length : Int)) = (U bs).length := by rw [i64_in _ (by omega)]; omega
  have hs2 : IntKind.i64.wrap (IntKind.i64.wrap (0 + ((U bs).length : Int)) + ((U (little m v)).length : Int)) = ((bs.length + m : Nat) : Int) := by rw [hs1, i64_in _ (by omega)]; omega
  have hs3 : IntKind.i64.wrap (IntKind.i64.wrap (IntKind.i64.wrap (0 + ((U bs).length : Int)) + ((U (little m v)).length : Int)) - IntKind.i64.wrap (0 - ((0 : Nat) : Int))) = ((bs.length + m : Nat) : Int) := by
    rw [hs2, show IntKind.i64.wrap (0 - ((0 : Nat) : Int)) = 0 from i64_in _ (by omega), i64_in _ (by omega)]; omega
  refine loop_un 3 ?_
  refine br_intro (fun h => absurd (of_decide_eq_true h) (by rw [hs1]; omega)) (fun _ => ?_)
  refine br_intro (fun h => absurd (of_decide_eq_true h) (by rw [hs2]; omega)) (fun _ => ?_)
  refine CallS.of_fn tab_ok reg_ok Try.func28 rfl rfl ?_
  refine br_intro (fun h => absurd (of_decide_eq_true h) (by rw [hs2]; omega)) (fun _ => ?_)
  refine br_intro (fun _ => ?_) (fun h => absurd (of_decide_eq_false h) (by rw [hs3]; omega))
  refine ck_intro ?_ ?_
  · show (true && decide (0 < IntKind.i64.wrap (IntKind.i64.wrap (IntKind.i64.wrap (0 + ((U bs).length : Int)) + ((U (little m v)).length : Int)) - IntKind.i64.wrap (0 - ((0 : Nat) : Int)))) && fitsRow (IntKind.i64.wrap (IntKind.i64.wrap (IntKind.i64.wrap (0 + ((U bs).length : Int)) + ((U (little m v)).length : Int)) - IntKind.i64.wrap (0 - ((0 : Nat) : Int)))).toNat 1 && true && true && true) = true
    rw [hs3, fits1 (by simp; omega), decide_eq_true (by omega)]; rfl
  refine loop_un 3 ?_
  have hz : (List.replicate (IntKind.i64.wrap (IntKind.i64.wrap (IntKind.i64.wrap (0 + ((U bs).length : Int)) + ((U (little m v)).length : Int)) - IntKind.i64.wrap (0 - ((0 : Nat) : Int)))).toNat (T.int .u8 0)).length = bs.length + m := by rw [hs3, Int.toNat_natCast, List.length_replicate]
  have hnw : (List.take (U (little m v)).length (List.drop 0 (U (little m v)))) = U (little m v) := by simp
  have h1 : (List.take 0 (List.replicate (IntKind.i64.wrap (IntKind.i64.wrap (IntKind.i64.wrap (0 + ((U bs).length : Int)) + ((U (little m v)).length : Int)) - IntKind.i64.wrap (0 - ((0 : Nat) : Int)))).toNat (T.int .u8 0)) ++ U bs ++ List.drop (0 + (U bs).length) (List.replicate (IntKind.i64.wrap (IntKind.i64.wrap (IntKind.i64.wrap (0 + ((U bs).length : Int)) + ((U (little m v)).length : Int)) - IntKind.i64.wrap (0 - ((0 : Nat) : Int)))).toNat (T.int .u8 0))).length = bs.length + m := by rw [List.length_append, List.length_append, List.length_take, List.length_drop, hz, hl]; omega
  refine Or.inr (ck_intro ?_ ?_)
  · show (Nat.ble 1 (List.replicate (IntKind.i64.wrap (IntKind.i64.wrap (IntKind.i64.wrap (0 + ((U bs).length : Int)) + ((U (little m v)).length : Int)) - IntKind.i64.wrap (0 - ((0 : Nat) : Int)))).toNat (T.int .u8 0)).length && Nat.ble (0 + (U bs).length) (List.replicate (IntKind.i64.wrap (IntKind.i64.wrap (IntKind.i64.wrap (0 + ((U bs).length : Int)) + ((U (little m v)).length : Int)) - IntKind.i64.wrap (0 - ((0 : Nat) : Int)))).toNat (T.int .u8 0)).length) = true
    rw [hz, hl]; simp [Nat.ble_eq]; omega
  refine Or.inr (ck_intro ?_ ?_)
  · show (Nat.ble 1 (List.take 0 (List.replicate (IntKind.i64.wrap (IntKind.i64.wrap (IntKind.i64.wrap (0 + ((U bs).length : Int)) + ((U (little m v)).length : Int)) - IntKind.i64.wrap (0 - ((0 : Nat) : Int)))).toNat (T.int .u8 0)) ++ U bs ++ List.drop (0 + (U bs).length) (List.replicate (IntKind.i64.wrap (IntKind.i64.wrap (IntKind.i64.wrap (0 + ((U bs).length : Int)) + ((U (little m v)).length : Int)) - IntKind.i64.wrap (0 - ((0 : Nat) : Int)))).toNat (T.int .u8 0))).length && Nat.ble (0 + (U bs).length + (List.take (U (little m v)).length (List.drop 0 (U (little m v)))).length) (List.take 0 (List.replicate (IntKind.i64.wrap (IntKind.i64.wrap (IntKind.i64.wrap (0 + ((U bs).length : Int)) + ((U (little m v)).length : Int)) - IntKind.i64.wrap (0 - ((0 : Nat) : Int)))).toNat (T.int .u8 0)) ++ U bs ++ List.drop (0 + (U bs).length) (List.replicate (IntKind.i64.wrap (IntKind.i64.wrap (IntKind.i64.wrap (0 + ((U bs).length : Int)) + ((U (little m v)).length : Int)) - IntKind.i64.wrap (0 - ((0 : Nat) : Int)))).toNat (T.int .u8 0))).length) = true
    rw [h1, hnw, hl, hul, hml]; simp [Nat.ble_eq]; omega
  have e : (List.take (0 + (U bs).length) (List.take 0 (List.replicate (IntKind.i64.wrap (IntKind.i64.wrap (IntKind.i64.wrap (0 + ((U bs).length : Int)) + ((U (little m v)).length : Int)) - IntKind.i64.wrap (0 - ((0 : Nat) : Int)))).toNat (T.int .u8 0)) ++ U bs ++ List.drop (0 + (U bs).length) (List.replicate (IntKind.i64.wrap (IntKind.i64.wrap (IntKind.i64.wrap (0 + ((U bs).length : Int)) + ((U (little m v)).length : Int)) - IntKind.i64.wrap (0 - ((0 : Nat) : Int)))).toNat (T.int .u8 0))) ++ (List.take (U (little m v)).length (List.drop 0 (U (little m v)))) ++ List.drop (0 + (U bs).length + (List.take (U (little m v)).length (List.drop 0 (U (little m v)))).length) (List.take 0 (List.replicate (IntKind.i64.wrap (IntKind.i64.wrap (IntKind.i64.wrap (0 + ((U bs).length : Int)) + ((U (little m v)).length : Int)) - IntKind.i64.wrap (0 - ((0 : Nat) : Int)))).toNat (T.int .u8 0)) ++ U bs ++ List.drop (0 + (U bs).length) (List.replicate (IntKind.i64.wrap (IntKind.i64.wrap (IntKind.i64.wrap (0 + ((U bs).length : Int)) + ((U (little m v)).length : Int)) - IntKind.i64.wrap (0 - ((0 : Nat) : Int)))).toNat (T.int .u8 0)))) = U (bs ++ little ((m : Int)).toNat v) := by
    have hd : List.drop (0 + (U bs).length + (List.take (U (little m v)).length (List.drop 0 (U (little m v)))).length) (List.take 0 (List.replicate (IntKind.i64.wrap (IntKind.i64.wrap (IntKind.i64.wrap (0 + ((U bs).length : Int)) + ((U (little m v)).length : Int)) - IntKind.i64.wrap (0 - ((0 : Nat) : Int)))).toNat (T.int .u8 0)) ++ U bs ++ List.drop (0 + (U bs).length) (List.replicate (IntKind.i64.wrap (IntKind.i64.wrap (IntKind.i64.wrap (0 + ((U bs).length : Int)) + ((U (little m v)).length : Int)) - IntKind.i64.wrap (0 - ((0 : Nat) : Int)))).toNat (T.int .u8 0))) = [] := List.drop_of_length_le (by rw [h1, hnw, hl, hul, hml]; omega)
    have ht : List.take (0 + (U bs).length) (List.take 0 (List.replicate (IntKind.i64.wrap (IntKind.i64.wrap (IntKind.i64.wrap (0 + ((U bs).length : Int)) + ((U (little m v)).length : Int)) - IntKind.i64.wrap (0 - ((0 : Nat) : Int)))).toNat (T.int .u8 0)) ++ U bs ++ List.drop (0 + (U bs).length) (List.replicate (IntKind.i64.wrap (IntKind.i64.wrap (IntKind.i64.wrap (0 + ((U bs).length : Int)) + ((U (little m v)).length : Int)) - IntKind.i64.wrap (0 - ((0 : Nat) : Int)))).toNat (T.int .u8 0))) = U bs := by
      rw [List.take_zero, List.nil_append, List.take_append_of_le_length (by omega), List.take_of_length_le (by omega)]
    rw [hd, ht, hnw, U_app, Int.toNat_natCast, List.append_nil]
  refine And.intro ⟨⟨congrArg (fun x => some (Blk.arr tU8 1 true 0 (Sq.ts x))) e, rfl, ?_⟩, rfl, trivial⟩ rfl
  show 0 + (U bs).length + (List.take (U (little m v)).length (List.drop 0 (U (little m v)))).length = _
  rw [hnw, U_app, List.length_append, Int.toNat_natCast]; omega

end Go.Proofs.Ytddigcnpapfpjaa
