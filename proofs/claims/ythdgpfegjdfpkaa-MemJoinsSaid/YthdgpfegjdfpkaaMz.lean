/-
  Numbers that are read; a number is there just if its bytes are, and is what they make.
-/
import Derived.Test.YthdgpfegjdfpkaaMy
namespace Go.Proofs.Ythdgpfegjdfpkaa
open Go.IntWalk
set_option maxRecDepth 100000
set_option linter.unusedVariables false
set_option linter.unusedSimpArgs false
set_option maxHeartbeats 2000000

theorem nbx {b : Bool} (h : (!b) = true) : b = false := by simpa using h
abbrev LD : FuncId := 8

theorem load_no (R : List RegD) (a : Nat) (n : Int) (hn : ¬ (1 ≤ n ∧ n ≤ 8)) : Runs Try.prog LD [memT R, .int .u64 a, .int .i64 n] (.tup [.t (.int .u64 0), .t (.bool false)]) := by
  refine Runs.of_call ?_ rfl
  refine CallS.of_fn tabS_ok regS_ok Try.func8 rfl rfl ?_
  refine CallS.pure (size_runs n) rfl ?_
  refine br_intro (fun c => ?_) (fun c => ?_)
  · exact And.intro ⟨rfl, rfl, trivial⟩ rfl
  · exact absurd (of_decide_eq_true (by simpa using c)) hn

theorem load_short (R : List RegD) (a n : Nat) (hl : R.length ≤ 1000000) (hR : ∀ r ∈ R, Fine r) (ha : a < 18446744073709551616) (hn : 1 ≤ n ∧ n ≤ 8) (L : List UInt8) (hL : L = runB (fun x => byteV R x 4) a n 0) (hs : L.length ≠ n) :
    Runs Try.prog LD [memT R, .int .u64 a, .int .i64 n] (.tup [.t (.int .u64 0), .t (.bool false)]) := by
  have hB := bytes_runs R a 4 n hl hR ha hn.2
  have hle := runB_len (fun x => byteV R x 4) a n 0
  rw [← hL] at hB hle
  obtain ⟨P, hP⟩ : ∃ P, P = L.map ptE := ⟨_, rfl⟩
  have hPl : P.length = L.length := by rw [hP, List.length_map]
  rw [← hP] at hB
  refine Runs.of_call ?_ rfl
  refine CallS.of_fn tabS_ok regS_ok Try.func8 rfl rfl ?_
  refine CallS.pure (size_runs n) rfl ?_
  refine br_intro (fun c => ?_) (fun c => ?_)
  · exact absurd (show (1 : Int) ≤ n ∧ (n : Int) ≤ 8 by omega) (of_decide_eq_false (nbx c))
  refine CallS.pure hB rfl ?_
  refine br_intro (fun c2 => ?_) (fun c2 => ?_)
  · exact And.intro ⟨rfl, rfl, trivial⟩ rfl
  · have := dge c2; omega

theorem load_full (R : List RegD) (a n : Nat) (hl : R.length ≤ 1000000) (hR : ∀ r ∈ R, Fine r) (ha : a < 18446744073709551616) (hn : 1 ≤ n ∧ n ≤ 8) (L : List UInt8) (hL : L = runB (fun x => byteV R x 4) a n 0) (hs : L.length = n) :
    Runs Try.prog LD [memT R, .int .u64 a, .int .i64 n] (.tup [.t (.int .u64 (le L)), .t (.bool true)]) := by
  have hB := bytes_runs R a 4 n hl hR ha hn.2
  rw [← hL] at hB
  have hPl : (L.map ptE).length = n := by rw [List.length_map, hs]
  refine Runs.of_call ?_ rfl
  refine CallS.of_fn tabS_ok regS_ok Try.func8 rfl rfl ?_
  refine CallS.pure (size_runs n) rfl ?_
  refine br_intro (fun c => ?_) (fun c => ?_)
  · exact absurd (show (1 : Int) ≤ n ∧ (n : Int) ≤ 8 by omega) (of_decide_eq_false (nbx c))
  refine CallS.pure hB rfl ?_
  refine br_intro (fun c2 => ?_) (fun c2 => ?_)
  · have := dlt c2; omega
  refine loop_on (fun k : Nat => k ≤ n) (fun k => ⟨[(9, .t (.int .u64 (le (L.take k)))), (23, .sl 0 0 0 (L.map ptE).length), (24, .t (.int .i64 ((L.map ptE).length : Int))), (25, .t (.int .i64 k))], [.arr 52 1 true 0 (.ts (L.map ptE))]⟩)
    (fun k => n - k) 0 (Nat.zero_le _) ?_ (fun k hk => ?_)
  · exact weak_of ⟨rfl, rfl, rfl, rfl, trivial⟩ rfl
  refine br_intro (fun c3 => ?_) (fun c3 => ?_)
  · have c3 : k < n := by have := dlt c3; omega
    have hk2 : k < L.length := by omega
    have hget : L[k]? = some L[k] := List.getElem?_eq_getElem hk2
    have hc := L[k].toNat_lt
    have hor := or_step L k hk2 (by omega)
    rw [u64_nat (by omega)] at hor
    obtain ⟨g, hg⟩ : ∃ g, IntKind.u64.wrap ((L[k].toNat : Int) * 2 ^ (min (((8 * k : Nat) : Int)).toNat IntKind.u64.bits)) = g := ⟨_, rfl⟩
    rw [hg] at hor
    obtain ⟨v, hv⟩ : ∃ v, v = L[k] := ⟨_, rfl⟩
    rw [← hv] at hget hc hg
    obtain ⟨t0, ht0⟩ : ∃ t, t = le (L.take k) := ⟨_, rfl⟩
    obtain ⟨t1, ht1⟩ : ∃ t, t = le (L.take (k + 1)) := ⟨_, rfl⟩
    rw [← ht0, ← ht1] at hor
    obtain ⟨z, hz⟩ : ∃ z, z = v.toNat := ⟨_, rfl⟩
    refine ck_intro (inB0 rfl (by omega)) ?_
    refine opt_intro (map_get0 hget) ?_
    refine st_intro (n := ((z : Nat) : Int)) (by rw [hz]; exact u64_nat (by omega)) ?_
    obtain ⟨e8, he8⟩ : ∃ e, e = 8 * k := ⟨_, rfl⟩
    refine st_intro (n := ((e8 : Nat) : Int)) ((nat_in (n := 8 * k) (by omega)).trans (by rw [he8])) ?_
    rw [← hz, ← he8] at hg
    refine ck_intro (decide_eq_true (Int.natCast_nonneg e8)) ?_
    refine st_intro hg ?_
    refine st_intro (n := ((t1 : Nat) : Int)) (by rw [← ht0]; exact hor) ?_
    refine st_intro (n := ((k + 1 : Nat) : Int)) (nat_in (n := k + 1) (by omega)) ?_
    conv => whnf
    exact ⟨⟨k + 1, c3⟩, weak_of ⟨congrArg (fun n : Nat => AV.t (.int .u64 (n : Int))) ht1, rfl, rfl, rfl, trivial⟩ rfl, by show n - (k + 1) < n - k; omega⟩
  · have c3 : k = n := by have := dge c3; omega
    exact And.intro ⟨congrArg (fun n : Nat => some (T.int .u64 (n : Int))) (show le (L.take k) = le L by rw [List.take_of_length_le (by omega)]), rfl, trivial⟩ rfl

theorem holds_runs (R : List RegD) (a n : Nat) (hl : R.length ≤ 1000000) (hR : ∀ r ∈ R, Fine r) (ha : a < 18446744073709551616) (hn : 1 ≤ n ∧ n ≤ 8) (L : List UInt8) (hL : L = runB (fun x => byteV R x 4) a n 0) (b : Bool) (hb : b = decide (L.length = n)) :
    Runs Try.prog 10 [memT R, .int .u64 a, .int .i64 n, .int .i64 4] (.t (.bool b)) := by
  have hB := bytes_runs R a 4 n hl hR ha hn.2
  rw [← hL] at hB
  obtain ⟨P, hP⟩ : ∃ P, P = L.map ptE := ⟨_, rfl⟩
  have hPl : P.length = L.length := by rw [hP, List.length_map]
  rw [← hP] at hB
  refine Runs.of_call ?_ rfl
  refine CallS.of_fn tabS_ok regS_ok Try.func10 rfl rfl ?_
  refine CallS.pure (size_runs n) rfl ?_
  refine br_intro (fun c => ?_) (fun c => ?_)
  · refine CallS.pure hB rfl ?_
    exact And.intro (congrArg (fun b => some (T.bool b)) (by
      show ((P.length : Int) == (n : Int)) = b
      rw [hb, hPl]
      by_cases h : L.length = n
      · simp [h]
      · have : ¬ ((L.length : Int) = (n : Int)) := by omega
        simp [h, this])) rfl
  · exact absurd (show (1 : Int) ≤ n ∧ (n : Int) ≤ 8 by omega) (of_decide_eq_false c)

end Go.Proofs.Ythdgpfegjdfpkaa
