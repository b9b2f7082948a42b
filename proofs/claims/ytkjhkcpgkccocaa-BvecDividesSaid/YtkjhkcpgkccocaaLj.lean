/-
  The document's answer on bits: which numbers fit.
-/
import Derived.Test.YtkjhkcpgkccocaaLi
namespace Go.Proofs.Ytkjhkcpgkccocaa
open Go.IntWalk
set_option maxRecDepth 100000
set_option linter.unusedVariables false
set_option linter.unusedSimpArgs false

def fuS (n : Nat) (w : Int) (k : Nat) : St := ⟨[(0, .t (.int .i64 ((n / 2 ^ k : Nat) : Int))), (1, .t (.int .i64 w)), (5, .t (.int .i64 k))], []⟩

theorem i64_nat {q : Nat} (h : q ≤ 9223372036854775807) : IntKind.i64.wrap (q : Int) = q := i64_in _ (by omega)
theorem not_pos {q : Nat} (h : ¬ ((q : Int) > 0)) : q = 0 := by omega
theorem beq_zero (q : Nat) : decide (q = 0) = ((q : Int) == 0) := by rw [Bool.eq_iff_iff, decide_eq_true_iff, beq_iff_eq]; omega

theorem zero_div_le {n i k : Nat} (h : n / 2 ^ i = 0) (hk : i ≤ k) : n / 2 ^ k = 0 := by
  rw [show k = i + (k - i) by omega, Nat.pow_add, ← Nat.div_div_eq_div_mul, h, Nat.zero_div]

def rfitsU (n w : Int) : Bool := decide (1 ≤ w ∧ 0 ≤ n ∧ n.toNat / 2 ^ w.toNat = 0)

theorem rfitsU_runs (n w : Int) (hn : n ≤ 9223372036854775807) (hw : w ≤ 9223372036854775807) : Runs Try.prog 30 [.int .i64 n, .int .i64 w] (.t (.bool (rfitsU n w))) := by
  refine Runs.of_call ?_ rfl
  refine CallS.of_fn tab_ok reg_ok Try.func30 rfl rfl ?_
  have bad : ¬ (1 ≤ w ∧ 0 ≤ n) → rfitsU n w = false := fun h => decide_eq_false fun hh => h ⟨hh.1, hh.2.1⟩
  refine br_intro (fun h => ?_) (fun h => br_intro (fun h2 => ?_) (fun h2 => ?_))
  · have h := of_decide_eq_true h
    rw [bad (by omega)]
    exact And.intro rfl rfl
  · have h2 := of_decide_eq_true h2
    rw [bad (by omega)]
    exact And.intro rfl rfl
  have h := of_decide_eq_false h
  have h2 := of_decide_eq_false h2
  obtain ⟨n, rfl⟩ := Int.eq_ofNat_of_zero_le (show 0 ≤ n by omega)
  have res : rfitsU n w = decide (n / 2 ^ w.toNat = 0) := by
    rw [rfitsU, decide_eq_decide, Int.toNat_natCast]
    exact ⟨fun hh => hh.2.2, fun hh => ⟨by omega, by omega, hh⟩⟩
  rw [res]
  refine loop_on (fun k : Nat => (k : Int) ≤ w) (fuS n w) (fun k => w.toNat - k) 0 (by omega) (weak_of ⟨congrArg (fun x : Nat => AV.t (.int .i64 x)) (by simp), rfl, rfl, trivial⟩ rfl) (fun k hk => ?_)
  refine br_intro (fun h3 => ?_) (fun h3 => ?_)
  · have h3 := of_decide_eq_true h3
    have hq : (((n / 2 ^ k : Nat) : Int).tdiv 2) = ((n / 2 ^ (k + 1) : Nat) : Int) := by
      rw [Nat.pow_succ, ← Nat.div_div_eq_div_mul]; rfl
    have hb : n / 2 ^ (k + 1) ≤ n := Nat.div_le_self _ _
    have e1 : IntKind.i64.wrap (((n / 2 ^ k : Nat) : Int).tdiv 2) = ((n / 2 ^ (k + 1) : Nat) : Int) := by rw [hq, i64_nat (by omega)]
    have e2 : IntKind.i64.wrap ((k : Int) + 1) = ((k + 1 : Nat) : Int) := by rw [i64_in _ (by omega)]; rfl
    refine br_intro (fun h4 => ?_) (fun h4 => ?_)
    · refine ⟨⟨k + 1, by omega⟩, weak_of ⟨congrArg (fun x => AV.t (.int .i64 x)) e1, rfl, congrArg (fun x => AV.t (.int .i64 x)) e2, trivial⟩ rfl, by show w.toNat - (k + 1) < w.toNat - k; omega⟩
    · have h4 := of_decide_eq_false h4
      have h0 : n / 2 ^ k = 0 := not_pos h4
      rw [zero_div_le h0 (show k ≤ w.toNat by omega), h0]
      exact And.intro rfl rfl
  · have h3 := of_decide_eq_false h3
    have hk : k = w.toNat := by omega
    subst hk
    have : decide (n / 2 ^ w.toNat = 0) = (((n / 2 ^ w.toNat : Nat) : Int) == 0) := beq_zero _
    rw [this]
    exact And.intro rfl rfl

def rfitsS (n w : Int) : Bool := decide (1 ≤ w ∧ (if n < 0 then (-(n + 1)).toNat else n.toNat) / 2 ^ (w - 1).toNat = 0)

def fsS (n : Nat) (w : Int) (k : Nat) : St := ⟨[(0, .t (.int .i64 ((n / 2 ^ k : Nat) : Int))), (1, .t (.int .i64 w)), (5, .t (.int .i64 ((k + 1 : Nat) : Int)))], []⟩

theorem rfitsS_runs (n w : Int) (hn : -9223372036854775808 ≤ n ∧ n ≤ 9223372036854775807) (hw : w ≤ 9223372036854775807) : Runs Try.prog 31 [.int .i64 n, .int .i64 w] (.t (.bool (rfitsS n w))) := by
  refine Runs.of_call ?_ rfl
  refine CallS.of_fn tab_ok reg_ok Try.func31 rfl rfl ?_
  have bad : ¬ (1 ≤ w) → rfitsS n w = false := fun h => decide_eq_false fun hh => h hh.1
  refine br_intro (fun h => ?_) (fun h => ?_)
  · have h := of_decide_eq_true h
    rw [bad (by omega)]
    exact And.intro rfl rfl
  have h := of_decide_eq_false h
  have res : ∀ m : Nat, (if n < 0 then (-(n + 1)).toNat else n.toNat) = m → rfitsS n w = decide (m / 2 ^ (w - 1).toNat = 0) := fun m hm => by
    rw [rfitsS, decide_eq_decide, hm]
    exact ⟨fun hh => hh.2, fun hh => ⟨by omega, hh⟩⟩
  have lp : ∀ m k : Nat, (m : Int) ≤ 9223372036854775807 → IntKind.i64.wrap (((m / 2 ^ k : Nat) : Int).tdiv 2) = ((m / 2 ^ (k + 1) : Nat) : Int) := fun m k hm => by
    have hq : (((m / 2 ^ k : Nat) : Int).tdiv 2) = ((m / 2 ^ (k + 1) : Nat) : Int) := by
      rw [Nat.pow_succ, ← Nat.div_div_eq_div_mul]; rfl
    have hb : m / 2 ^ (k + 1) ≤ m := Nat.div_le_self _ _
    rw [hq, i64_nat (by omega)]
  have e2 : ∀ k : Nat, ((k : Int) + 1) < w → IntKind.i64.wrap (((k + 1 : Nat) : Int) + 1) = ((k + 1 + 1 : Nat) : Int) := fun k hk => by rw [i64_in _ (by omega)]; rfl
  refine br_intro (fun h2 => ?_) (fun h2 => ?_)
  · have h2 := of_decide_eq_true h2
    obtain ⟨m, hm⟩ : ∃ m : Nat, IntKind.i64.wrap (0 - IntKind.i64.wrap (n + 1)) = m ∧ (-(n + 1)).toNat = m := ⟨(-(n + 1)).toNat, by rw [i64_in (n + 1) (by omega), i64_in _ (by omega)]; omega, rfl⟩
    have hmle : (m : Int) ≤ 9223372036854775807 := by omega
    rw [res m (by rw [if_pos h2]; exact hm.2)]
    refine loop_on (fun k : Nat => (k : Int) + 1 ≤ w) (fsS m w) (fun k => w.toNat - k) 0 (by omega) (weak_of ⟨congrArg (fun x => AV.t (.int .i64 x)) (hm.1.trans (by rw [Nat.pow_zero, Nat.div_one])), rfl, rfl, trivial⟩ rfl) (fun k hk => ?_)
    refine br_intro (fun h3 => ?_) (fun h3 => ?_)
    · have h3 := of_decide_eq_true h3
      refine br_intro (fun h4 => ?_) (fun h4 => ?_)
      · refine ⟨⟨k + 1, by omega⟩, weak_of ⟨congrArg (fun x => AV.t (.int .i64 x)) (lp m k hmle), rfl, congrArg (fun x => AV.t (.int .i64 x)) (e2 k (by omega)), trivial⟩ rfl, by show w.toNat - (k + 1) < w.toNat - k; omega⟩
      · have h4 := of_decide_eq_false h4
        have h0 : m / 2 ^ k = 0 := not_pos h4
        rw [zero_div_le h0 (show k ≤ (w - 1).toNat by omega), h0]
        exact And.intro rfl rfl
    · have h3 := of_decide_eq_false h3
      have hk : k = (w - 1).toNat := by omega
      subst hk
      have : decide (m / 2 ^ (w - 1).toNat = 0) = (((m / 2 ^ (w - 1).toNat : Nat) : Int) == 0) := beq_zero _
      rw [this]
      exact And.intro rfl rfl
  · have h2 := of_decide_eq_false h2
    obtain ⟨m, hm⟩ : ∃ m : Nat, n = m := ⟨n.toNat, by omega⟩
    have hmle : (m : Int) ≤ 9223372036854775807 := by omega
    rw [res m (by rw [if_neg h2, hm]; rfl)]
    refine loop_on (fun k : Nat => (k : Int) + 1 ≤ w) (fsS m w) (fun k => w.toNat - k) 0 (by omega) (weak_of ⟨congrArg (fun x => AV.t (.int .i64 x)) (hm.trans (by rw [Nat.pow_zero, Nat.div_one])), rfl, rfl, trivial⟩ rfl) (fun k hk => ?_)
    refine br_intro (fun h3 => ?_) (fun h3 => ?_)
    · have h3 := of_decide_eq_true h3
      refine br_intro (fun h4 => ?_) (fun h4 => ?_)
      · refine ⟨⟨k + 1, by omega⟩, weak_of ⟨congrArg (fun x => AV.t (.int .i64 x)) (lp m k hmle), rfl, congrArg (fun x => AV.t (.int .i64 x)) (e2 k (by omega)), trivial⟩ rfl, by show w.toNat - (k + 1) < w.toNat - k; omega⟩
      · have h4 := of_decide_eq_false h4
        have h0 : m / 2 ^ k = 0 := not_pos h4
        rw [zero_div_le h0 (show k ≤ (w - 1).toNat by omega), h0]
        exact And.intro rfl rfl
    · have h3 := of_decide_eq_false h3
      have hk : k = (w - 1).toNat := by omega
      subst hk
      have : decide (m / 2 ^ (w - 1).toNat = 0) = (((m / 2 ^ (w - 1).toNat : Nat) : Int) == 0) := beq_zero _
      rw [this]
      exact And.intro rfl rfl

end Go.Proofs.Ytkjhkcpgkccocaa
