/-
  Numbers of 128 bits: the signed value; what fits.
-/
import Derived.Test.YtkjhkcpgkccocaaBv9
namespace Go.Proofs.Ytkjhkcpgkccocaa
open Go.IntWalk
set_option maxRecDepth 100000
set_option linter.unusedVariables false
set_option linter.unusedSimpArgs false

/-- The highest bit. -/
theorem top_iff {w : Int} {n : Nat} (h : isN w n) : n / 2 ^ (w - 1).toNat % 2 = 1 ↔ 2 ^ (w - 1).toNat ≤ n := by
  have hw := h.1
  have e : (2 : Nat) ^ w.toNat = 2 * 2 ^ (w - 1).toNat := by
    rw [show w.toNat = (w - 1).toNat + 1 by omega, Nat.pow_succ, Nat.mul_comm]
  have hlt := h.2
  rw [e] at hlt
  have hp : 0 < 2 ^ (w - 1).toNat := Nat.pow_pos (by omega)
  have hd : n / 2 ^ (w - 1).toNat < 2 := by rw [Nat.div_lt_iff_lt_mul hp]; exact hlt
  constructor
  · intro h1
    have h3 : 1 ≤ n / 2 ^ (w - 1).toNat := by
      generalize n / 2 ^ (w - 1).toNat = d at h1
      clear hlt e hp hd
      omega
    rw [Nat.le_div_iff_mul_le hp] at h3
    omega
  · intro h1
    have h3 : 1 ≤ n / 2 ^ (w - 1).toNat := by rw [Nat.le_div_iff_mul_le hp]; omega
    generalize n / 2 ^ (w - 1).toNat = d at *
    clear hlt e h1 hp
    omega

theorem maskN_eq {w : Int} (h : 0 ≤ w) (h2 : w ≤ 128) : maskN w = 2 ^ w.toNat - 1 := by rw [maskN, Nat.min_eq_left (by omega)]

theorem sgn_eq {w : Int} {n : Nat} (h : isN w n) : sgn w n = if 2 ^ (w - 1).toNat ≤ n then n + (2 ^ 128 - 2 ^ w.toNat) else n := by
  have hw := h.1
  unfold sgn
  by_cases hc : 2 ^ (w - 1).toNat ≤ n
  · rw [if_pos hc, if_pos ((top_iff h).2 hc), maskN_eq (by omega) (by omega)]
    have e1 : all1 - (2 ^ w.toNat - 1) = (2 ^ (128 - w.toNat) - 1) * 2 ^ w.toNat := by
      rw [Nat.sub_mul, ← Nat.pow_add, show 128 - w.toNat + w.toNat = 128 by omega]
      have : 0 < 2 ^ w.toNat := Nat.pow_pos (by omega)
      have : 2 ^ w.toNat ≤ 2 ^ 128 := Nat.pow_le_pow_right (by omega) (by omega)
      unfold all1; omega
    have e2 : 2 ^ 128 - 2 ^ w.toNat = (2 ^ (128 - w.toNat) - 1) * 2 ^ w.toNat := by
      rw [Nat.sub_mul, ← Nat.pow_add, show 128 - w.toNat + w.toNat = 128 by omega, Nat.one_mul]
    rw [e1, e2, Nat.or_comm, or_add h.2]
    omega
  · rw [if_neg hc, if_neg (fun hh => hc ((top_iff h).1 hh))]

/-- The signed value. -/
def sval (w : Int) (n : Nat) : Int := if 2 ^ (w - 1).toNat ≤ n then (n : Int) - 2 ^ w.toNat else n

theorem pow_half {w : Int} (h : 1 ≤ w) : (2 : Nat) ^ w.toNat = 2 * 2 ^ (w - 1).toNat := by
  rw [show w.toNat = (w - 1).toNat + 1 by omega, Nat.pow_succ, Nat.mul_comm]

theorem sval_sgn {w : Int} {n : Nat} (h : isN w n) : (sgn w n : Int) = sval w n % 340282366920938463463374607431768211456 ∧ -170141183460469231731687303715884105728 ≤ sval w n ∧ sval w n < 170141183460469231731687303715884105728 := by
  have hw := h.1
  have h1 := pow_half hw.1
  have h2 : (2 : Nat) ^ w.toNat ≤ 2 ^ 128 := Nat.pow_le_pow_right (by omega) (by omega)
  have hlt := h.2
  have e : ((2 : Int) ^ w.toNat) = ((2 ^ w.toNat : Nat) : Int) := by simp
  rw [sgn_eq h, sval, e]
  generalize 2 ^ w.toNat = p at *
  generalize 2 ^ (w - 1).toNat = q at *
  split <;> refine ⟨by omega, by omega, by omega⟩

def intR (w : Int) (n : Nat) : AV :=
  if isN w n ∧ -9223372036854775808 ≤ sval w n ∧ sval w n < 9223372036854775808 then .tup [.t (.int .i64 (sval w n)), .t (.bool true)] else .tup [.t (.int .i64 0), .t (.bool false)]

theorem intR_flat (w : Int) (n : Nat) : Flat (intR w n) := by unfold intR; split <;> exact ⟨rfl, rfl, trivial⟩

theorem int_runs (w : Int) (n : Nat) (hn : n < 2 ^ 128) : Runs Try.prog 32 [bt w n] (intR w n) := by
  refine Runs.of_call ?_ (by unfold intR; split <;> rfl)
  refine CallS.of_fn tab_ok reg_ok Try.func32 rfl rfl ?_
  refine CallS.snap (normal_runs w n hn) rfl rfl ?_
  refine br_intro (fun h => ?_) (fun h => ?_)
  · have h : ¬ isN w n := by simpa using h
    rw [intR, if_neg (fun hh => h hh.1)]
    exact And.intro ⟨rfl, rfl, trivial⟩ rfl
  have h : isN w n := by simpa using h
  refine CallS.snap (signed_runs w n h) rfl rfl ?_
  obtain ⟨h1, h2, h3⟩ := sval_sgn h
  have hs := sgn_lt (w := w) hn
  have e1 : IntKind.i64.wrap ((sgn w n % 18446744073709551616 : Nat) : Int) = (sval w n + 9223372036854775808) % 18446744073709551616 - 9223372036854775808 := by
    rw [IntKind.wrap_i64]; omega
  have e2 : ((sval w n + 9223372036854775808) % 18446744073709551616 - 9223372036854775808).fdiv (2 ^ (min (63 : Int).toNat IntKind.i64.bits)) = if (sval w n + 9223372036854775808) % 18446744073709551616 < 9223372036854775808 then -1 else 0 := by
    show ((sval w n + 9223372036854775808) % 18446744073709551616 - 9223372036854775808).fdiv 9223372036854775808 = _
    rw [Int.fdiv_eq_ediv_of_nonneg _ (by decide)]
    split <;> omega
  refine br_intro (fun h4 => ?_) (fun h4 => ?_)
  · have h4 := eq_of_beq h4
    rw [e1, e2, IntKind.wrap_u64] at h4
    have : -9223372036854775808 ≤ sval w n ∧ sval w n < 9223372036854775808 := by
      split at h4 <;> omega
    rw [intR, if_pos ⟨h, this⟩]
    refine And.intro ⟨?_, rfl, trivial⟩ rfl
    exact congrArg (fun x => some (T.int .i64 x)) (by rw [e1]; omega)
  · have h4 := ne_of_beq_false h4
    rw [e1, e2, IntKind.wrap_u64] at h4
    rw [intR, if_neg (fun hh => by obtain ⟨_, k1, k2⟩ := hh; split at h4 <;> omega)]
    exact And.intro ⟨rfl, rfl, trivial⟩ rfl

def fitsU (n w : Int) : Bool := decide (1 ≤ w ∧ 0 ≤ n ∧ (63 ≤ w ∨ n.toNat / 2 ^ w.toNat = 0))
def fitsS (n w : Int) : Bool := decide (1 ≤ w ∧ (64 ≤ w ∨ n.fdiv (2 ^ (w - 1).toNat) = n.fdiv 9223372036854775808))

theorem fitsU_runs (n w : Int) : Runs Try.prog 28 [.int .i64 n, .int .i64 w] (.t (.bool (fitsU n w))) := by
  refine Runs.of_call ?_ rfl
  refine CallS.of_fn tab_ok reg_ok Try.func28 rfl rfl ?_
  refine br_intro (fun h => ?_) (fun h => ?_)
  · have h := of_decide_eq_true h
    refine br_intro (fun h2 => ?_) (fun h2 => ?_)
    · have h2 := of_decide_eq_true h2
      refine br_intro (fun h3 => ?_) (fun h3 => ?_)
      · have h3 := of_decide_eq_true h3
        rw [show fitsU n w = true from decide_eq_true ⟨by omega, by omega, .inl (by omega)⟩]
        exact And.intro rfl rfl
      · have h3 := of_decide_eq_false h3
        refine ck_intro (by simp; omega) ?_
        refine And.intro (congrArg (fun b => some (T.bool b)) ?_) rfl
        obtain ⟨k, rfl⟩ := Int.eq_ofNat_of_zero_le h2
        rw [show IntKind.i64.bits = 64 from rfl, Nat.min_eq_left (by omega), Int.fdiv_eq_ediv_of_nonneg _ (by exact Int.le_of_lt (Int.pow_pos (by omega)))]
        have e : ((k : Int) / 2 ^ w.toNat) = ((k / 2 ^ w.toNat : Nat) : Int) := by simp
        rw [e, fitsU, Int.toNat_natCast]
        by_cases hz : k / 2 ^ w.toNat = 0
        · rw [hz]; simp; omega
        · rw [decide_eq_false (fun hh => by omega)]
          simp
          intro hh
          apply hz
          have : ((k / 2 ^ w.toNat : Nat) : Int) = 0 := by simpa using hh
          omega
    · have h2 := of_decide_eq_false h2
      rw [show fitsU n w = false from decide_eq_false (fun hh => by omega)]
      exact And.intro rfl rfl
  · have h := of_decide_eq_false h
    rw [show fitsU n w = false from decide_eq_false (fun hh => by omega)]
    exact And.intro rfl rfl

theorem fitsS_runs (n w : Int) (hn : -9223372036854775808 ≤ n ∧ n ≤ 9223372036854775807) : Runs Try.prog 29 [.int .i64 n, .int .i64 w] (.t (.bool (fitsS n w))) := by
  refine Runs.of_call ?_ rfl
  refine CallS.of_fn tab_ok reg_ok Try.func29 rfl rfl ?_
  refine br_intro (fun h => ?_) (fun h => ?_)
  · have h := of_decide_eq_true h
    refine br_intro (fun h3 => ?_) (fun h3 => ?_)
    · have h3 := of_decide_eq_true h3
      rw [show fitsS n w = true from decide_eq_true ⟨by omega, .inl (by omega)⟩]
      exact And.intro rfl rfl
    · have h3 := of_decide_eq_false h3
      have e : IntKind.i64.wrap (w - 1) = w - 1 := i64_in _ (by omega)
      refine ck_intro (by rw [e]; simp; omega) ?_
      refine And.intro (congrArg (fun b => some (T.bool b)) ?_) rfl
      rw [e, show IntKind.i64.bits = 64 from rfl, Nat.min_eq_left (by omega), fitsS]
      by_cases hz : n.fdiv (2 ^ (w - 1).toNat) = n.fdiv 9223372036854775808
      · rw [decide_eq_true ⟨h, .inr hz⟩]
        exact beq_iff_eq.2 hz
      · rw [decide_eq_false (fun hh => by obtain ⟨_, k | k⟩ := hh <;> first | omega | exact hz k)]
        exact beq_eq_false_iff_ne.2 hz
  · have h := of_decide_eq_false h
    rw [show fitsS n w = false from decide_eq_false (fun hh => by omega)]
    exact And.intro rfl rfl

end Go.Proofs.Ytkjhkcpgkccocaa
