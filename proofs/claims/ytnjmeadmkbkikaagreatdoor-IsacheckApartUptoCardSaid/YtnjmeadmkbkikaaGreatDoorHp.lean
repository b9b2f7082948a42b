/-
  The document's functions for patterns: classes, places, values (walks).
-/
import Derived.Test.YtnjmeadmkbkikaaGreatDoorHo
namespace Go.Proofs.YtnjmeadmkbkikaaGreatDoor
open Go.IntWalk
set_option maxRecDepth 100000
set_option linter.unusedVariables false
set_option linter.unusedSimpArgs false
set_option maxHeartbeats 1000000

theorem u64int {n : Int} (h : 0 ≤ n) (h2 : n < 18446744073709551616) : IntKind.u64.wrap n = n := by rw [IntKind.wrap_u64]; omega
theorem i64pow {k : Int} {n : Nat} (h : k = (n : Int)) (hn : n < 63) : IntKind.i64.wrap (1 * 2 ^ (min k.toNat IntKind.i64.bits)) = ((2 ^ n : Nat) : Int) := by
  have : 2 ^ n < 2 ^ 63 := Nat.pow_lt_pow_right (by decide) hn
  rw [h, Int.toNat_natCast, Nat.min_eq_left (show n ≤ IntKind.i64.bits by show _ ≤ 64; omega), Int.one_mul, ← int_pow]
  obtain ⟨P, hP⟩ : ∃ P, P = 2 ^ n := ⟨_, rfl⟩
  rw [← hP] at this ⊢
  rw [IntKind.wrap_i64]; omega
theorem bt_end {b : Bool} (h : b = true) : some (T.bool b) = some (T.bool true) := by rw [h]

theorem class_runs_r (d : DescD) (k : ClassD) (hk : ClassOK d k) : Runs Tryz.prog 116 [descT d, classT k] (.t (.bool true)) := by
  refine Runs.of_call ?_ rfl
  refine CallS.of_fn tabS_ok regS_ok Tryz.func116 rfl rfl ?_
  have hb : 1 ≤ k.bits ∧ k.bits ≤ 64 ∧ 0 ≤ k.shift ∧ k.shift ≤ 64 ∧ 0 ≤ k.plus ∧ k.plus ≤ 64 := by rcases hk with h | h | h <;> omega
  refine br_intro (fun c => absurd (of_decide_eq_true c) (by omega)) (fun _ => ?_)
  refine br_intro (fun c => absurd (of_decide_eq_true c) (by omega)) (fun _ => ?_)
  refine br_intro (fun c => absurd (of_decide_eq_true c) (by omega)) (fun _ => ?_)
  refine br_intro (fun c => absurd (of_decide_eq_true c) (by omega)) (fun _ => ?_)
  refine br_intro (fun c => absurd (of_decide_eq_true c) (by omega)) (fun _ => ?_)
  refine br_intro (fun c => absurd (of_decide_eq_true c) (by omega)) (fun _ => ?_)
  refine br_intro (fun c1 => ?_) (fun c1 => ?_)
  · have c1 : k.kind = 1 := by simpa using c1
    obtain ⟨h6, hs0, hp, hp2, fl, hfl, hfine, hlast⟩ : k.bits ≤ 6 ∧ k.shift = 0 ∧ 0 ≤ k.plus ∧ k.plus < 64 ∧ ∃ fl, at? d.files k.file = some fl ∧ fl.fine ∧ k.plus + 2 ^ k.bits.toNat - 1 < fl.count := by
      rcases hk with ⟨_, h, h2, h3, h4, h5⟩ | h | h
      · exact ⟨h.2, h2, h3, h4, h5⟩
      · omega
      · omega
    have hf0 := at_lt hfl
    obtain ⟨fl2, e1, _, hfg⟩ := at_some hf0
    obtain rfl : fl = fl2 := by rw [hfl] at e1; exact Option.some.inj e1
    refine br_intro (fun c => absurd (of_decide_eq_true c) (by omega)) (fun _ => ?_)
    refine br_intro (fun c => absurd (show k.shift ≠ 0 by simpa using c) (by omega)) (fun _ => ?_)
    refine CallS.pure (place_runs _ _) rfl ?_
    refine br_intro (fun c => ?_) (fun _ => ?_)
    · exact absurd (show ¬ (0 ≤ k.file ∧ k.file < ((d.files.map fileT).length : Int)) from of_decide_eq_false (nb' c)) (by rw [List.length_map]; exact fun h => h hf0)
    refine ck_intro (ix0 rfl hf0.1) ?_
    refine opt_intro (row_get hfg) ?_
    refine CallS.pure (file_runs_r fl) rfl ?_
    refine br_intro (fun c => absurd hfine (of_decide_eq_false (by simpa using c))) (fun _ => ?_)
    obtain ⟨B, hB⟩ : ∃ B : Nat, k.bits = (B : Int) := ⟨k.bits.toNat, by omega⟩
    obtain ⟨N, hN⟩ : ∃ N, N = 2 ^ B := ⟨_, rfl⟩
    have hN64 : N ≤ 2 ^ 6 := by rw [hN]; exact pow_le (by omega)
    have hN1 : 1 ≤ N := by rw [hN]; exact Nat.two_pow_pos _
    rw [hB, Int.toNat_natCast, ← int_pow, ← hN] at hlast
    refine loop_on (fun i : Nat => i ≤ N - 1) (fun i => ⟨[(2, .ptr 0 0 0 0), (3, .ptr 1 0 0 0), (5, .t (.int .i64 (k.plus + i))), (6, .t (.int .i64 i))], [.box (descC d), .box (clsC k)]⟩)
      (fun i => N - 1 - i) 0 (Nat.zero_le _) ?_ (fun i hi => ?_)
    · exact weak_of ⟨rfl, rfl, (by show AV.t (T.int .i64 k.plus) = AV.t (T.int .i64 (k.plus + ((0 : Nat) : Int))); simp), rfl, trivial⟩ rfl
    have hi : i ≤ N - 1 := hi
    refine st_intro (n := k.bits) (u64int (by omega) (by omega)) ?_
    refine ck_intro (decide_eq_true (show (0 : Int) ≤ k.bits by omega)) ?_
    refine st_intro (n := (N : Int)) (by rw [i64pow hB (by omega), hN]) ?_
    refine st_intro (n := ((N - 1 : Nat) : Int)) (by rw [IntKind.wrap_i64]; omega) ?_
    refine br_intro (fun c => ?_) (fun c => ?_)
    · have c : i < N - 1 := dlt c
      refine st_intro (n := k.plus + ((i + 1 : Nat) : Int)) (by rw [IntKind.wrap_i64]; omega) ?_
      refine st_intro (n := ((i + 1 : Nat) : Int)) (nat_in (n := i + 1) (by omega)) ?_
      conv => whnf
      exact ⟨⟨i + 1, by omega⟩, weak_gc [0, 1] rfl ⟨rfl, rfl, rfl, rfl, trivial⟩ ⟨rfl, rfl, trivial⟩, by show N - 1 - (i + 1) < N - 1 - i; omega⟩
    · have c : i = N - 1 := by have := dge c; omega
      refine ck_intro (ix0 rfl hf0.1) ?_
      refine opt_intro (row_get hfg) ?_
      exact And.intro (bt_end (decide_eq_true (by omega))) rfl
  have c1 : ¬ k.kind = 1 := by simpa using c1
  refine br_intro (fun c2 => ?_) (fun c2 => ?_)
  · have c2 : k.kind = 2 := by simpa using c2
    have h : k.bits + k.shift ≤ 62 ∧ k.plus = 0 := by rcases hk with h | h | h <;> omega
    refine st_intro (n := k.bits + k.shift) (by rw [IntKind.wrap_i64]; omega) ?_
    refine br_intro (fun _ => ?_) (fun c => absurd (of_decide_eq_false c) (by omega))
    exact And.intro (bt_end (by simp [h.2])) rfl
  have c2 : ¬ k.kind = 2 := by simpa using c2
  have h : (k.kind = 3 ∨ k.kind = 4 ∨ k.kind = 5) ∧ k.bits + k.shift ≤ 64 ∧ k.plus = 0 := by
    rcases hk with h | h | h
    · omega
    · omega
    · exact ⟨h.1, by omega, by omega⟩
  refine br_intro (fun c3 => ?_) (fun c3 => ?_)
  · refine br_intro (fun _ => ?_) (fun c => absurd (c.symm.trans c3) (by decide))
    refine st_intro (n := k.bits + k.shift) (by rw [IntKind.wrap_i64]; omega) ?_
    refine br_intro (fun _ => ?_) (fun c => absurd (of_decide_eq_false c) (by omega))
    exact And.intro (bt_end (by simp [h.2.2])) rfl
  have c3 : ¬ k.kind = 3 := by simpa using c3
  refine br_intro (fun c4 => ?_) (fun c4 => ?_)
  · refine br_intro (fun _ => ?_) (fun c => absurd (c.symm.trans c4) (by decide))
    refine st_intro (n := k.bits + k.shift) (by rw [IntKind.wrap_i64]; omega) ?_
    refine br_intro (fun _ => ?_) (fun c => absurd (of_decide_eq_false c) (by omega))
    exact And.intro (bt_end (by simp [h.2.2])) rfl
  have c4 : ¬ k.kind = 4 := by simpa using c4
  refine br_intro (fun c5 => ?_) (fun c5 => ?_)
  · refine st_intro (n := k.bits + k.shift) (by rw [IntKind.wrap_i64]; omega) ?_
    refine br_intro (fun _ => ?_) (fun c => absurd (of_decide_eq_false c) (by omega))
    exact And.intro (bt_end (by simp [h.2.2])) rfl
  have c5 : ¬ k.kind = 5 := by simpa using c5
  omega

/-- The place of a bit, as byte and bit. -/
theorem at_runs_r (o : Int) (s n : Nat) (hs : s < n) (hn : n ≤ 1000000) : Runs Tryz.prog 79 [.int .i64 o, .int .i64 s, .int .i64 n] (.tup [.t (.int .i64 ((if o = 1 then (n - 1 - s) / 8 else s / 8 : Nat) : Int)), .t (.int .i64 ((if o = 1 then (n - 1 - s) % 8 else 7 - s % 8 : Nat) : Int))]) := by
  refine Runs.of_call ?_ rfl
  refine CallS.of_fn tabS_ok regS_ok Tryz.func79 rfl rfl ?_
  refine br_intro (fun c => ?_) (fun c => ?_)
  · have c : o = 1 := by simpa using c
    rw [if_pos c, if_pos c]
    obtain ⟨w, hw⟩ : ∃ w, w = n - 1 - s := ⟨_, rfl⟩
    rw [← hw]
    refine st_intro (n := ((n - 1 : Nat) : Int)) (by rw [IntKind.wrap_i64]; omega) ?_
    refine st_intro (n := ((w : Nat) : Int)) (nat_sub (a := w) (b := s) (c := n - 1) (by omega) (by omega)) ?_
    refine ck_intro rfl ?_
    refine st_intro (n := ((w / 8 : Nat) : Int)) (show IntKind.i64.wrap (((w : Nat) : Int).tdiv 8) = _ from by rw [Int.tdiv_eq_ediv_of_nonneg (by omega), IntKind.wrap_i64]; omega) ?_
    refine ck_intro rfl ?_
    refine st_intro (n := ((w % 8 : Nat) : Int)) (show ((w : Nat) : Int).tmod 8 = _ from by rw [Int.tmod_eq_emod_of_nonneg (by omega)]; omega) ?_
    exact And.intro ⟨rfl, rfl, trivial⟩ rfl
  · have c : ¬ o = 1 := by simpa using c
    rw [if_neg c, if_neg c]
    refine ck_intro rfl ?_
    refine st_intro (n := ((s / 8 : Nat) : Int)) (show IntKind.i64.wrap (((s : Nat) : Int).tdiv 8) = _ from by rw [Int.tdiv_eq_ediv_of_nonneg (by omega), IntKind.wrap_i64]; omega) ?_
    refine ck_intro rfl ?_
    refine st_intro (n := ((s % 8 : Nat) : Int)) (show ((s : Nat) : Int).tmod 8 = _ from by rw [Int.tmod_eq_emod_of_nonneg (by omega)]; omega) ?_
    refine st_intro (n := ((7 - s % 8 : Nat) : Int)) (by rw [IntKind.wrap_i64]; omega) ?_
    exact And.intro ⟨rfl, rfl, trivial⟩ rfl

theorem value_runs_r (d : DescD) (k : ClassD) (hk : ClassOK d k) (n : Nat) (hn : n < 2 ^ k.bits.toNat) : Runs Tryz.prog 31 [classT k, .int .u64 n] (.t (.int .i64 (valueV k n))) := by
  have hsh : 0 ≤ k.shift := by rcases hk with h | h | h <;> omega
  have hsh64 : k.shift ≤ 64 := by rcases hk with h | h | h <;> omega
  have hb : 1 ≤ k.bits ∧ k.bits ≤ 64 := by rcases hk with h | h | h <;> omega
  have hb0 : k.bits.toNat ≤ 64 := by omega
  have hn64 : n < 2 ^ 64 := Nat.lt_of_lt_of_le hn (pow_le (by omega))
  refine Runs.of_call ?_ rfl
  refine CallS.of_fn tabS_ok regS_ok Tryz.func31 rfl rfl ?_
  refine br_intro (fun c => ?_) (fun c => ?_)
  · have c : k.kind = 1 := by simpa using c
    have hp : 0 ≤ k.plus ∧ k.plus < 64 ∧ k.bits ≤ 6 := by rcases hk with h | h | h <;> omega
    have : 2 ^ k.bits.toNat ≤ 2 ^ 6 := pow_le (by omega)
    refine st_intro (n := (n : Int)) (by rw [IntKind.wrap_i64]; omega) ?_
    refine st_intro (n := (n : Int) + k.plus) (by rw [IntKind.wrap_i64]; omega) ?_
    exact And.intro (congrArg (fun x => some (T.int .i64 x)) (by rw [valueV, if_pos c])) rfl
  have c1 : ¬ k.kind = 1 := by simpa using c
  obtain ⟨v0, hv0⟩ : ∃ v0, IntKind.i64.wrap (n : Int) = v0 := ⟨_, rfl⟩
  refine st_intro hv0 ?_
  obtain ⟨S, hS⟩ : ∃ S, S = 2 ^ k.shift.toNat := ⟨_, rfl⟩
  have hS0 : 0 < S := by rw [hS]; exact Nat.two_pow_pos _
  have hSi : ((S : Nat) : Int) = 2 ^ k.shift.toNat := by rw [hS, int_pow]
  refine br_intro (fun c => ?_) (fun c => ?_)
  rotate_left 1
  · have c : k.kind = 2 := by simpa using c
    have hp : k.bits + k.shift ≤ 62 := by rcases hk with h | h | h <;> omega
    have h1 : 2 ^ k.bits.toNat ≤ 2 ^ 62 := pow_le (by omega)
    have h2 : n * S < 2 ^ 62 := by
      have : n * 2 ^ k.shift.toNat < 2 ^ k.bits.toNat * 2 ^ k.shift.toNat := Nat.mul_lt_mul_of_pos_right hn (Nat.two_pow_pos _)
      rw [← Nat.pow_add, ← hS] at this
      exact Nat.lt_of_lt_of_le this (pow_le (by omega))
    have hv : v0 = (n : Int) := by rw [← hv0, IntKind.wrap_i64]; omega
    refine st_intro (n := k.shift) (u64int (by omega) (by omega)) ?_
    refine ck_intro (decide_eq_true hsh) ?_
    refine st_intro (n := ((n * S : Nat) : Int)) (show IntKind.i64.wrap (v0 * 2 ^ (min (Int.toNat k.shift) IntKind.i64.bits)) = _ from by
      rw [hv, min64 (by show k.shift.toNat ≤ 64; omega), ← hSi, ← Int.natCast_mul, IntKind.wrap_i64]; omega) ?_
    exact And.intro (congrArg (fun x => some (T.int .i64 x)) (by rw [valueV, if_neg c1, if_pos c, Int.natCast_mul, hSi])) rfl
  have c2 : ¬ k.kind = 2 := by simpa using c
  have hp : k.bits + k.shift ≤ 64 := by rcases hk with h | h | h <;> omega
  obtain ⟨B, hB⟩ : ∃ B, B = 2 ^ k.bits.toNat := ⟨_, rfl⟩
  obtain ⟨H, hH2⟩ : ∃ H, H = 2 ^ (k.bits.toNat - 1) := ⟨_, rfl⟩
  have hH : H * 2 = B := by rw [hH2, hB, ← Nat.pow_succ]; congr 1; omega
  obtain ⟨v, hv⟩ : ∃ v : Int, v = if H ≤ n then (n : Int) - B else n := ⟨_, rfl⟩
  have hnB : n < B := by rw [hB]; exact hn
  have hvB : -(H : Int) ≤ v ∧ v < H := by rw [hv]; split <;> omega
  have hHS : H * S ≤ 9223372036854775808 := by
    rw [hH2, hS, ← Nat.pow_add]
    exact pow_le (b := 63) (by omega)
  have hvS : -9223372036854775808 ≤ v * (S : Int) ∧ v * (S : Int) ≤ 9223372036854775807 := by
    have e : ((H * S : Nat) : Int) = (H : Int) * S := Int.natCast_mul _ _
    have h1 : -(H : Int) * S ≤ v * S := Int.mul_le_mul_of_nonneg_right hvB.1 (by omega)
    have h2 : v * S ≤ ((H : Int) - 1) * S := Int.mul_le_mul_of_nonneg_right (by omega) (by omega)
    rw [Int.neg_mul] at h1
    rw [Int.sub_mul] at h2
    omega
  have hfin : valueV k n = v * (S : Int) := by rw [valueV, if_neg c1, if_neg c2, hv, ← int_pow, ← hB, ← hH2, hSi]
  have last : ∀ z : Int, z = v → IntKind.i64.wrap (z * 2 ^ (min (Int.toNat k.shift) IntKind.i64.bits)) = v * (S : Int) := fun z hz => by
    rw [hz, min64 (by show k.shift.toNat ≤ 64; omega), ← hSi, IntKind.wrap_i64]; omega
  refine br_intro (fun c64 => ?_) (fun c64 => ?_)
  · have c64 : k.bits < 64 := of_decide_eq_true c64
    have hB63 : B ≤ 2 ^ 63 := by rw [hB]; exact pow_le (by omega)
    have hv0n : v0 = (n : Int) := by rw [← hv0, IntKind.wrap_i64]; omega
    obtain ⟨m, hm⟩ : ∃ m, m = k.bits - 1 := ⟨_, rfl⟩
    refine st_intro (n := m) (by rw [IntKind.wrap_i64]; omega) ?_
    refine st_intro (n := m) (u64int (by omega) (by omega)) ?_
    refine ck_intro (decide_eq_true (show (0 : Int) ≤ m by omega)) ?_
    have hq : n / H < 2 := by rw [Nat.div_lt_iff_lt_mul (by omega)]; omega
    have hq1 : n / H = if H ≤ n then 1 else 0 := by
      have hH0 : 0 < H := by rw [hH2]; exact Nat.two_pow_pos _
      split
      · next h => have := Nat.div_le_div_right (c := H) h; rw [Nat.div_self hH0] at this; omega
      · next h => exact Nat.div_eq_of_lt (by omega)
    obtain ⟨q, hqq⟩ : ∃ q, q = n / H := ⟨_, rfl⟩
    refine st_intro (n := (q : Int)) (show ((n : Nat) : Int).fdiv (2 ^ min (Int.toNat m) IntKind.u64.bits) = (q : Int) from by
      rw [min64 (by show m.toNat ≤ 64; omega), show m.toNat = k.bits.toNat - 1 by omega, ← int_pow, ← hH2, Int.fdiv_eq_ediv_of_nonneg _ (by omega), ← Int.natCast_ediv, hqq]) ?_
    refine ck_intro rfl ?_
    refine st_intro (n := (q : Int)) (by rw [Int.tmod_eq_emod_of_nonneg (by omega)]; omega) ?_
    refine br_intro (fun cq => ?_) (fun cq => ?_)
    · have cq : q = 1 := by have : ((q : Int) == 1) = true := cq
                            simp at this; omega
      have hHn : H ≤ n := by
        rcases Nat.lt_or_ge n H with h | h
        · rw [if_neg (by omega)] at hq1; omega
        · exact h
      obtain ⟨b, hbb⟩ : ∃ b : Nat, k.bits = (b : Int) := ⟨k.bits.toNat, by omega⟩
      obtain ⟨g, hg⟩ : ∃ g, IntKind.i64.wrap (1 * 2 ^ (min k.bits.toNat IntKind.i64.bits)) = g := ⟨_, rfl⟩
      refine st_intro (n := k.bits) (u64int (by omega) (by omega)) ?_
      refine ck_intro (decide_eq_true (show (0 : Int) ≤ k.bits by omega)) ?_
      refine st_intro hg ?_
      have hvn : v = (n : Int) - B := by rw [hv, if_pos hHn]
      have hgB : IntKind.i64.wrap (v0 - g) = v := by
        rw [← hg, hbb, Int.toNat_natCast, Nat.min_eq_left (show b ≤ IntKind.i64.bits by show _ ≤ 64; omega), Int.one_mul, ← int_pow, show 2 ^ b = B by rw [hB, hbb]; rfl, IntKind.wrap_i64, IntKind.wrap_i64]
        omega
      refine st_intro (n := v) hgB ?_
      refine st_intro (n := k.shift) (u64int (by omega) (by omega)) ?_
      refine ck_intro (decide_eq_true hsh) ?_
      refine st_intro (n := v * (S : Int)) (last v rfl) ?_
      exact And.intro (congrArg (fun x => some (T.int .i64 x)) hfin.symm) rfl
    · have cq : ¬ q = 1 := by intro e; rw [e] at cq; cases cq
      have hHn : ¬ H ≤ n := fun h => by rw [if_pos h] at hq1; omega
      refine st_intro (n := k.shift) (u64int (by omega) (by omega)) ?_
      refine ck_intro (decide_eq_true hsh) ?_
      refine st_intro (n := v * (S : Int)) (last v0 (by rw [hv0n, hv, if_neg hHn])) ?_
      exact And.intro (congrArg (fun x => some (T.int .i64 x)) hfin.symm) rfl
  · have c64 : k.bits = 64 := by have : ¬ k.bits < 64 := of_decide_eq_false c64
                                 omega
    have hBv : B = 18446744073709551616 := by rw [hB, c64]; rfl
    refine st_intro (n := k.shift) (u64int (by omega) (by omega)) ?_
    refine ck_intro (decide_eq_true hsh) ?_
    refine st_intro (n := v * (S : Int)) (last v0 (by rw [← hv0, IntKind.wrap_i64, hv]; split <;> omega)) ?_
    exact And.intro (congrArg (fun x => some (T.int .i64 x)) hfin.symm) rfl

end Go.Proofs.YtnjmeadmkbkikaaGreatDoor
