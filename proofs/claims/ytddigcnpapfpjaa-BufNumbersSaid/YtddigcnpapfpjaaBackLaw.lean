/-
  The law: what was put is got again, and every other byte stays.
-/
import Derived.Test.YtddigcnpapfpjaaPut2
import Derived.Test.YtddigcnpapfpjaaTextsLaw
namespace Go.Proofs.Ytddigcnpapfpjaa
open Go.IntWalk
set_option maxRecDepth 100000
set_option linter.unusedVariables false
set_option linter.unusedSimpArgs false

theorem pair_arg {cs : List T} (h : HasT Try.prog 35 cs) : ∃ a n : Int, argOf Try.prog 35 cs = .agg [.int .i64 a, .int .i64 n] ∧ (-9223372036854775808 ≤ a ∧ a ≤ 9223372036854775807) ∧ (-9223372036854775808 ≤ n ∧ n ≤ 9223372036854775807) := by
  obtain ⟨hl, h⟩ := h.array' Try.underlying35
  have hl : cs.length = 2 := hl
  match cs, hl with
  | [x, y], _ =>
    obtain ⟨a, e1, w1⟩ := (h 0 (by omega)).int' Try.underlying3
    obtain ⟨n, e2, w2⟩ := (h 1 (by omega)).int' Try.underlying3
    have e1 : [x] = [T.int .i64 a] := e1
    have e2 : [y] = [T.int .i64 n] := e2
    cases e1; cases e2
    exact ⟨a, n, rfl, i64_wf w1, i64_wf w2⟩

theorem u64_arg {cs : List T} (h : HasT Try.prog 36 cs) : ∃ n : Nat, argOf Try.prog 36 cs = .int .u64 n ∧ n < 18446744073709551616 := by
  obtain ⟨n, rfl, hw⟩ := h.int' Try.underlying36
  obtain ⟨h1, h2⟩ := u64_wf hw
  obtain ⟨m, rfl⟩ := Int.eq_ofNat_of_zero_le h1
  exact ⟨m, rfl, by omega⟩

theorem putL_get (bs : List UInt8) (a n v : Nat) (h : a + n ≤ bs.length) (k : Nat) (hk : k < a ∨ a + n ≤ k) : (putL bs a n v)[k]? = bs[k]? := by
  have hml := little_len n v
  have htl : (bs.take a).length = a := by simp; omega
  rw [putL, List.append_assoc]
  rcases hk with hk | hk
  · rw [List.getElem?_append_left (by omega), List.getElem?_take_of_lt hk]
  · rw [List.getElem?_append_right (by omega), htl, List.getElem?_append_right (by omega), hml, List.getElem?_drop, show a + n + (k - a - n) = k by omega]

def backS (bs : List UInt8) (p m v : Nat) (k : Nat) : St :=
  ⟨[(0, .t (.vec 1 (U bs))), (4, .ptr 0 0 0 0), (7, .sl 1 0 0 bs.length), (80, .t (.int .i64 (U bs).length)), (81, .t (.int .i64 k))],
    [.box [.t (.int .i64 p), .t (.int .i64 m)], .arr tU8 1 false 0 (.ts (U (putL bs p m v)))]⟩

theorem backNil (a n : Int) (v : Nat) : Runs Try.prog 5 [.nils, .agg [.int .i64 a, .int .i64 n], .int .u64 v] (.t (.bool true)) := by
  refine Runs.of_call ?_ rfl
  refine CallS.of_fn tab_ok reg_ok Try.func5 rfl rfl ?_
  refine CallS.pure alive_runs rfl ?_
  have hP := put_runs [] (by decide) a n v
  have e : putR [] a n v = .tup [oU true [], .t (.int .i64 21)] := by rw [putR, if_neg (fun hh => by have := hh.1; have := hh.2; simp at this; omega)]
  rw [e] at hP
  refine draw_introX [1] [(0, false), (1, false), (3, false), (4, false), (5, false), (6, false), (7, false), (2, false), (8, true), (9, false), (10, false), (11, false), (12, false), (13, true)] (by decide +kernel) ?_
  refine Or.inl (And.intro rfl (ck_intro (by decide) (And.intro (LeX.set (D := [1]) (b := 1) _ (List.mem_singleton.2 rfl)) ?_)))
  refine CallS.snap hP rfl ⟨oU_flat true [], rfl, trivial⟩ ?_
  exact And.intro (LeX.refl _ _) (And.intro rfl rfl)

set_option maxHeartbeats 4000000 in
theorem backLaw (c0 : List T) (h0 : HasT Try.prog 29 c0) (c1 : List T) (h1 : HasT Try.prog 35 c1) (c2 : List T) (h2 : HasT Try.prog 36 c2) :
    Runs Try.prog 5 [argOf Try.prog 29 c0, argOf Try.prog 35 c1, argOf Try.prog 36 c2] (.t (.bool true)) := by
  obtain ⟨a, n, e1, ha, hn⟩ := pair_arg h1
  obtain ⟨v, e2, hv⟩ := u64_arg h2
  rw [e1, e2]
  rcases bytes_arg h0 with e0 | ⟨bs, hb, e0⟩
  · rw [e0]; exact backNil a n v
  rw [e0]
  refine Runs.of_call ?_ rfl
  refine CallS.of_fn tab_ok reg_ok Try.func5 rfl rfl ?_
  refine CallS.pure alive_runs rfl ?_
  have hP := put_runs bs hb a n v
  have ht : List.take (0 + (U bs).length) (List.drop 0 ([] ++ U bs)) = U bs := by simp
  rw [← ht] at hP
  refine draw_introX [1] [(0, false), (1, false), (3, false), (4, false), (5, false), (6, false), (7, false), (2, false), (8, true), (9, false), (10, false), (11, false), (12, false), (13, true)] (by decide +kernel) ?_
  refine Or.inl (And.intro rfl (ck_intro (fits1 (n := 0 + (U bs).length) (by rw [U_len]; omega)) (And.intro (LeX.set (D := [1]) (b := 1) _ (List.mem_singleton.2 rfl)) ?_)))
  by_cases hT : There bs.length a n
  rotate_left
  · rw [putR, if_neg hT] at hP
    refine CallS.snap hP rfl ⟨oU_flat true [], rfl, trivial⟩ ?_
    exact And.intro (LeX.refl _ _) (And.intro rfl rfl)
  rw [putR, if_pos hT] at hP
  refine CallS.snap hP rfl ⟨oU_flat false _, rfl, trivial⟩ (And.intro (LeX.refl _ _) ?_)
  obtain ⟨⟨hn1, hn2⟩, ha0, hin⟩ := hT
  obtain ⟨m, rfl⟩ := Int.eq_ofNat_of_zero_le (show 0 ≤ n by omega)
  obtain ⟨p, rfl⟩ := Int.eq_ofNat_of_zero_le ha0
  have hpl := putL_len bs p m v (by omega)
  have hpart : part (putL bs p m v) (p : Int) (m : Int) = little m v := by
    have hml := little_len m v
    have htl : (bs.take p).length = p := by simp; omega
    rw [part, Int.toNat_natCast, Int.toNat_natCast, putL, List.append_assoc, List.drop_append, show (bs.take p).drop p = [] from List.drop_eq_nil_of_le (by omega), htl, Nat.sub_self, List.drop_zero, List.nil_append, List.take_append, List.take_of_length_le (by omega), hml, Nat.sub_self, List.take_zero, List.append_nil]
  have hG := get_runs (putL bs p m v) (by omega) (p : Int) (m : Int)
  rw [getR, if_pos ⟨⟨hn1, hn2⟩, by omega, by rw [hpl]; omega⟩, hpart, le_little] at hG
  have ht2 : List.take (U (putL bs p m v)).length (List.drop 0 (U (putL bs p m v))) = U (putL bs p m v) := by simp
  rw [← ht2] at hG
  refine CallS.snap hG rfl ⟨rfl, rfl, trivial⟩ ?_
  have hl1 : (((U (putL bs p m v)).length : Int) != ((U bs).length : Int)) = false := by rw [U_len, U_len, hpl]; simp
  refine br_intro (fun h => (by simp [hl1] at h)) (fun _ => ?_)
  have hm8 : m ≤ 8 := by omega
  refine br_intro (fun h8 => ?_) (fun h8 => ?_)
  · have h8 : (m : Int) < 8 := of_decide_eq_true h8
    have hb : IntKind.u64.wrap (IntKind.i64.wrap (8 * (m : Int))) = ((8 * m : Nat) : Int) := by
      rw [i64_in _ (by omega), show (8 * (m : Int)) = ((8 * m : Nat) : Int) by omega, u64_nat (by omega)]
    have hp : (256 : Nat) ^ m ≤ 256 ^ 7 := Nat.pow_le_pow_right (by omega) (by omega)
    have hp0 : 0 < (256 : Nat) ^ m := Nat.pow_pos (by omega)
    have hsh : IntKind.u64.wrap (1 * 2 ^ (min (IntKind.u64.wrap (IntKind.i64.wrap (8 * (m : Int)))).toNat 64)) = ((256 ^ m : Nat) : Int) := by
      rw [hb, Int.toNat_natCast, Nat.min_eq_left (by omega), Int.one_mul, show (2 : Int) ^ (8 * m) = ((2 ^ (8 * m) : Nat) : Int) by simp, show (2 : Nat) ^ (8 * m) = 256 ^ m by rw [Nat.pow_mul], u64_nat (by omega)]
    refine ck_intro (by rw [hb]; simp; omega) ?_
    refine ck_intro (by show (!decide (IntKind.u64.wrap (1 * 2 ^ (min (IntKind.u64.wrap (IntKind.i64.wrap (8 * (m : Int)))).toNat 64)) = 0)) = true; rw [hsh, decide_eq_false (by omega)]; rfl) ?_
    have hX : ((((v % 256 ^ m : Nat) : Int)) != (v : Int).tmod (IntKind.u64.wrap (1 * 2 ^ (min (IntKind.u64.wrap (IntKind.i64.wrap (8 * (m : Int)))).toNat 64)))) = false := by
      rw [hsh, Int.tmod_eq_emod_of_nonneg (by omega)]
      simp
    refine br_intro (fun h => absurd (hX.symm.trans h) (by decide)) (fun _ => ?_)
    refine br_intro (fun h => ?_) (fun _ => ?_)
    · have h := eq_of_beq h
      omega
    refine loop_on (fun k : Nat => k ≤ bs.length) (backS bs p m v) (fun k => bs.length - k) 0 (Nat.zero_le _) (weak_gc [0, 2] rfl ⟨rfl, rfl, ?_, rfl, rfl, trivial⟩ ⟨rfl, rfl, trivial⟩) (fun k hk => ?_)
    · exact congrArg (fun n : Nat => some (AV.sl 1 0 0 n)) (by rw [U_len]; exact hpl)
    refine br_intro (fun h => ?_) (fun h => ?_)
    rotate_left
    · exact And.intro rfl rfl
    have h := of_decide_eq_true h
    rw [U_len] at h
    have hkl : k < bs.length := by omega
    refine draw_intro [(0, false), (1, false), (2, false), (3, false), (4, false), (5, false), (6, false), (7, false), (8, false), (9, false), (10, false), (11, false), (12, false), (13, false), (14, false), (15, false), (16, false), (17, false), (18, false), (19, false), (20, false), (21, false), (22, false), (23, false)] (by decide +kernel) ?_
    have hlp : ((k : Int)).toNat = k := rfl
    have hin : inB (k : Int) bs.length = true := by simp [inB]; omega
    have hB : (U bs)[((k : Int)).toNat]? = some (T.int .u8 (bs[k]'hkl).toNat) := U_get bs k hkl
    have hP : (k < p ∨ p + m ≤ k) → (U (putL bs p m v))[0 + ((k : Int)).toNat]? = some (T.int .u8 (bs[k]'hkl).toNat) := fun hh => by
      rw [hlp, Nat.zero_add, U, List.getElem?_map, putL_get bs p m v (by omega) k hh, List.getElem?_eq_getElem hkl]; rfl
    have hne : ((((bs[k]'hkl).toNat : Nat) : Int) != (((bs[k]'hkl).toNat : Nat) : Int)) = false := by simp
    have next : ∀ x, x = (k : Int) + 1 → IntKind.i64.wrap x = ((k + 1 : Nat) : Int) := fun x hx => by rw [hx, i64_in _ (by omega)]; rfl
    refine br_intro (fun h5 => ?_) (fun h5 => ?_)
    · have h5 := of_decide_eq_true h5
      refine ck_intro hin ?_
      refine opt_intro (hP (.inl (by omega))) ?_
      refine opt_intro hB ?_
      refine br_intro (fun h => absurd (hne.symm.trans h) (by decide)) (fun _ => ?_)
      exact ⟨⟨k + 1, by omega⟩, weak_of ⟨rfl, rfl, rfl, rfl, congrArg (fun x => AV.t (.int .i64 x)) (next _ rfl), trivial⟩ rfl, by show bs.length - (k + 1) < bs.length - k; omega⟩
    · have h5 := of_decide_eq_false h5
      refine br_intro (fun h6 => ?_) (fun h6 => ?_)
      · have h6 := of_decide_eq_true h6
        rw [i64_in _ (by omega)] at h6
        refine ck_intro hin ?_
        refine opt_intro (hP (.inr (by omega))) ?_
        refine opt_intro hB ?_
        refine br_intro (fun h => absurd (hne.symm.trans h) (by decide)) (fun _ => ?_)
        exact ⟨⟨k + 1, by omega⟩, weak_of ⟨rfl, rfl, rfl, rfl, congrArg (fun x => AV.t (.int .i64 x)) (next _ rfl), trivial⟩ rfl, by show bs.length - (k + 1) < bs.length - k; omega⟩
      · exact ⟨⟨k + 1, by omega⟩, weak_of ⟨rfl, rfl, rfl, rfl, congrArg (fun x => AV.t (.int .i64 x)) (next _ rfl), trivial⟩ rfl, by show bs.length - (k + 1) < bs.length - k; omega⟩
  · have h8 := of_decide_eq_false h8
    obtain rfl : m = 8 := by omega
    have hX : ((((v % 256 ^ 8 : Nat) : Int)) != (v : Int)) = false := by
      rw [Nat.mod_eq_of_lt (by omega)]; simp
    refine br_intro (fun h => absurd (hX.symm.trans h) (by decide)) (fun _ => ?_)
    refine loop_on (fun k : Nat => k ≤ bs.length) (backS bs p 8 v) (fun k => bs.length - k) 0 (Nat.zero_le _) (weak_gc [0, 2] rfl ⟨rfl, rfl, ?_, rfl, rfl, trivial⟩ ⟨rfl, rfl, trivial⟩) (fun k hk => ?_)
    · exact congrArg (fun n : Nat => some (AV.sl 1 0 0 n)) (by rw [U_len]; exact hpl)
    refine br_intro (fun h => ?_) (fun h => ?_)
    rotate_left
    · exact And.intro rfl rfl
    have h := of_decide_eq_true h
    rw [U_len] at h
    have hkl : k < bs.length := by omega
    refine draw_intro [(0, false), (1, false), (2, false), (3, false), (4, false), (5, false), (6, false), (7, false), (8, false), (9, false), (10, false), (11, false), (12, false), (13, false), (14, false), (15, false), (16, false), (17, false), (18, false), (19, false), (20, false), (21, false), (22, false), (23, false)] (by decide +kernel) ?_
    have hlp : ((k : Int)).toNat = k := rfl
    have hin : inB (k : Int) bs.length = true := by simp [inB]; omega
    have hB : (U bs)[((k : Int)).toNat]? = some (T.int .u8 (bs[k]'hkl).toNat) := U_get bs k hkl
    have hP : (k < p ∨ p + 8 ≤ k) → (U (putL bs p 8 v))[0 + ((k : Int)).toNat]? = some (T.int .u8 (bs[k]'hkl).toNat) := fun hh => by
      rw [hlp, Nat.zero_add, U, List.getElem?_map, putL_get bs p 8 v (by omega) k hh, List.getElem?_eq_getElem hkl]; rfl
    have hne : ((((bs[k]'hkl).toNat : Nat) : Int) != (((bs[k]'hkl).toNat : Nat) : Int)) = false := by simp
    have next : ∀ x, x = (k : Int) + 1 → IntKind.i64.wrap x = ((k + 1 : Nat) : Int) := fun x hx => by rw [hx, i64_in _ (by omega)]; rfl
    refine br_intro (fun h5 => ?_) (fun h5 => ?_)
    · have h5 := of_decide_eq_true h5
      refine ck_intro hin ?_
      refine opt_intro (hP (.inl (by omega))) ?_
      refine opt_intro hB ?_
      refine br_intro (fun h => absurd (hne.symm.trans h) (by decide)) (fun _ => ?_)
      exact ⟨⟨k + 1, by omega⟩, weak_of ⟨rfl, rfl, rfl, rfl, congrArg (fun x => AV.t (.int .i64 x)) (next _ rfl), trivial⟩ rfl, by show bs.length - (k + 1) < bs.length - k; omega⟩
    · have h5 := of_decide_eq_false h5
      refine br_intro (fun h6 => ?_) (fun h6 => ?_)
      · have h6 := of_decide_eq_true h6
        rw [i64_in _ (by omega)] at h6
        refine ck_intro hin ?_
        refine opt_intro (hP (.inr (by omega))) ?_
        refine opt_intro hB ?_
        refine br_intro (fun h => absurd (hne.symm.trans h) (by decide)) (fun _ => ?_)
        exact ⟨⟨k + 1, by omega⟩, weak_of ⟨rfl, rfl, rfl, rfl, congrArg (fun x => AV.t (.int .i64 x)) (next _ rfl), trivial⟩ rfl, by show bs.length - (k + 1) < bs.length - k; omega⟩
      · exact ⟨⟨k + 1, by omega⟩, weak_of ⟨rfl, rfl, rfl, rfl, congrArg (fun x => AV.t (.int .i64 x)) (next _ rfl), trivial⟩ rfl, by show bs.length - (k + 1) < bs.length - k; omega⟩

end Go.Proofs.Ytddigcnpapfpjaa
