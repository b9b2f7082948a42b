/-
  Numbers of 128 bits: quotient and rest.
-/
import Derived.Test.YtkjhkcpgkccocaaBv4
namespace Go.Proofs.Ytkjhkcpgkccocaa
open Go.IntWalk
set_option maxRecDepth 100000
set_option linter.unusedVariables false
set_option linter.unusedSimpArgs false

/-- The cells of a number of 128 bits. -/
def wc (n : Nat) : List AV := [.t (.int .u64 ((n / 18446744073709551616 : Nat) : Int)), .t (.int .u64 ((n % 18446744073709551616 : Nat) : Int))]

theorem or_add {x y n : Nat} (hy : y < 2 ^ n) : (x * 2 ^ n) ||| y = x * 2 ^ n + y := by
  rw [Nat.mul_comm x, Nat.two_pow_add_eq_or_of_lt hy]

theorem div_less {A b x q : Nat} (hx : x < b) (e : A = b * q + x) : A / b = q ∧ A % b = x := by
  subst e
  exact ⟨by rw [Nat.mul_add_div (by omega), Nat.div_eq_of_lt hx]; rfl, by rw [Nat.mul_add_mod, Nat.mod_eq_of_lt hx]⟩

def divS (a b k : Nat) : St :=
  ⟨[(2, .ptr 0 0 0 0), (3, .ptr 1 0 0 0), (4, .ptr 2 0 0 0), (5, .ptr 3 0 0 0), (6, .ptr 4 0 0 0), (7, .ptr 5 0 0 0), (8, .t (.int .i64 ((k : Int) - 1)))],
   [.box (wc a), .box (wc b), .box (wc 0), .box (wc 0), .box (wc (a / 2 ^ k / b * 2 ^ k)), .box (wc (a / 2 ^ k % b))]⟩

theorem divH {a b m X Y : Nat} (h1 : a / 2 ^ m / b * 2 ^ m = X) (h2 : a / 2 ^ m % b = Y) : [Blk.box (wc a), .box (wc b), .box (wc 0), .box (wc 0), .box (wc X), .box (wc Y)] = (divS a b m).H := by
  rw [← h1, ← h2]; rfl

theorem and_one (x : Nat) : x &&& 1 = x % 2 := Nat.and_two_pow_sub_one_eq_mod x 1

/-- The rest with one more bit. -/
def nextR (a b m : Nat) : Nat := 2 * (a / 2 ^ (m + 1) % b) + a / 2 ^ m % 2

theorem next_eq (a b m : Nat) : a / 2 ^ m = b * (2 * (a / 2 ^ (m + 1) / b)) + nextR a b m := by
  have h1 : a / 2 ^ (m + 1) = a / 2 ^ m / 2 := by rw [Nat.pow_succ, ← Nat.div_div_eq_div_mul]
  have h2 := Nat.div_add_mod (a / 2 ^ (m + 1)) b
  have h3 : b * (2 * (a / 2 ^ (m + 1) / b)) = 2 * (b * (a / 2 ^ (m + 1) / b)) := by rw [Nat.mul_left_comm]
  unfold nextR
  rw [h3]
  omega

theorem next_lt {a b m : Nat} (hb : 0 < b) : nextR a b m < 2 * b := by
  have := Nat.mod_lt (a / 2 ^ (m + 1)) hb
  unfold nextR; omega

theorem next_or (a b m : Nat) (hb : b < 2 ^ 128) (hb0 : 0 < b) : (a / 2 ^ (m + 1) % b * 2 ^ 1 % 2 ^ 128) ||| (a / 2 ^ m &&& 1) = nextR a b m % 2 ^ 128 := by
  have h := Nat.mod_lt (a / 2 ^ (m + 1)) hb0
  rw [and_one]
  have e : a / 2 ^ (m + 1) % b * 2 ^ 1 % 2 ^ 128 = (a / 2 ^ (m + 1) % b % 2 ^ 127) * 2 ^ 1 := by
    rw [show (2 : Nat) ^ 128 = 2 ^ 127 * 2 ^ 1 from rfl]; exact Nat.mul_mod_mul_right _ _ _
  rw [e, or_add (Nat.mod_lt _ (by omega))]
  unfold nextR
  omega

theorem div_runs (a b : Nat) (ha : a < 2 ^ 128) (hb : b < 2 ^ 128) (hb0 : 0 < b) : Runs Try.prog 75 [wd a, wd b] (.tup [.t (wd (a / b)), .t (wd (a % b))]) := by
  refine Runs.of_call ?_ rfl
  refine CallS.of_fn tab_ok reg_ok Try.func75 rfl rfl ?_
  refine br_intro (fun h => br_intro (fun h2 => ?fast) (fun h2 => ?_)) (fun h => ?_)
  case fast =>
    have h : a / 18446744073709551616 = 0 := by have := eq_of_beq h; omega
    have h2 : b / 18446744073709551616 = 0 := by have := eq_of_beq h2; omega
    have ha1 : a < 18446744073709551616 := by omega
    have hb1 : b < 18446744073709551616 := by omega
    have ea : a % 18446744073709551616 = a := Nat.mod_eq_of_lt ha1
    have eb : b % 18446744073709551616 = b := Nat.mod_eq_of_lt hb1
    have hq : a / b ≤ a := Nat.div_le_self _ _
    have hr : a % b < b := Nat.mod_lt _ hb0
    refine draw_introX [2, 3] [(0, false), (1, false), (2, false), (3, false), (4, false), (5, false), (6, false), (7, false), (8, false), (9, false), (10, false), (11, false), (12, false), (13, true)] (by decide +kernel) ?_
    have hne : (!decide (((b % 18446744073709551616 : Nat) : Int) = 0)) = true := by
      rw [eb]; simp; omega
    refine ck_intro hne (ck_intro hne ?_)
    refine And.intro (LeX.set (D := [2, 3]) (b := 2) _ (by decide)) ?_
    refine And.intro (And.intro (agg2 ?_ ?_) (And.intro (agg2 ?_ ?_) True.intro)) rfl
    · rw [Nat.div_eq_of_lt (by omega)]; rfl
    · rw [ea, eb, Nat.mod_eq_of_lt (by omega), ← Int.ofNat_tdiv]; exact u64_nat (by omega)
    · rw [Nat.div_eq_of_lt (by omega)]; rfl
    · rw [ea, eb, Nat.mod_eq_of_lt (by omega)]; exact (Int.ofNat_tmod a b).symm
  all_goals
    refine loop_on (fun k : Nat => k ≤ 128) (divS a b) (fun k => k) 128 (by omega) (weak_of ⟨rfl, rfl, rfl, rfl, rfl, rfl, rfl, trivial⟩ ?_) (fun k hk => ?_)
    · rw [divS, show a / 2 ^ 128 = 0 from Nat.div_eq_of_lt ha, Nat.zero_div, Nat.zero_mul, Nat.zero_mod]
      rfl
    refine br_intro (fun h3 => ?_) (fun h3 => ?_)
    · have h3 := of_decide_eq_true h3
      obtain ⟨m, rfl⟩ : ∃ m, k = m + 1 := ⟨k - 1, by omega⟩
      have hr0 := Nat.mod_lt (a / 2 ^ (m + 1)) hb0
      have em : IntKind.u64.wrap (((m + 1 : Nat) : Int) - 1) = ((m : Nat) : Int) := by rw [IntKind.wrap_u64]; omega
      have hxl := next_lt (a := a) (m := m) hb0
      have hxe := next_eq a b m
      have hor := next_or a b m hb hb0
      have hdm : a / 2 ^ m < 2 ^ 128 := Nat.lt_of_le_of_lt (Nat.div_le_self _ _) ha
      have hqm : a / 2 ^ (m + 1) / b * 2 ^ (m + 1) < 2 ^ 128 := by
        refine Nat.lt_of_le_of_lt ?_ ha
        refine Nat.le_trans (Nat.mul_le_mul_right _ (Nat.div_le_self _ _)) (Nat.div_mul_le_self _ _)
      refine draw_intro [(0, false), (2, false), (3, false), (4, false), (6, false), (1, false), (5, false), (7, true), (8, true), (9, true)] (by decide +kernel) ?_
      refine CallS.snap (up_runs (a / 2 ^ (m + 1) % b) 1 (by omega) (by omega)) rfl rfl (And.intro (LeX.append _ _ _) ?_)
      have hdn := down_runs a m ha (by omega)
      rw [← em] at hdn
      refine CallS.snap hdn rfl rfl (And.intro (LeX.append _ _ _) ?_)
      refine CallS.snap (and_runs (a / 2 ^ m) 1 hdm (by omega)) rfl rfl ?_
      have hor2 := or_runs (a / 2 ^ (m + 1) % b * 2 ^ 1 % 2 ^ 128) (a / 2 ^ m &&& 1) (Nat.mod_lt _ (by omega)) (Nat.lt_of_le_of_lt Nat.and_le_left hdm)
      rw [hor] at hor2
      refine CallS.snap hor2 rfl rfl ?_
      have hup := up_runs 1 m (by omega) (by omega)
      rw [← em] at hup
      have h2m : (2 : Nat) ^ m ≤ 2 ^ 127 := Nat.pow_le_pow_right (by omega) (by omega)
      have e2m : 1 * 2 ^ m % 2 ^ 128 = 2 ^ m := by rw [Nat.one_mul, Nat.mod_eq_of_lt (by omega)]
      rw [e2m] at hup
      have htop : (((a / 2 ^ (m + 1) % b / 18446744073709551616 : Nat) : Int).fdiv (2 ^ (min (63 : Int).toNat IntKind.u64.bits)) == 1) = decide (2 ^ 128 ≤ nextR a b m) := by
        rw [show ((a / 2 ^ (m + 1) % b / 18446744073709551616 : Nat) : Int).fdiv (2 ^ (min (63 : Int).toNat IntKind.u64.bits)) = ((a / 2 ^ (m + 1) % b / 18446744073709551616 / 2 ^ (min 63 64) : Nat) : Int) from shr_u64 _ 63]
        have : a / 2 ^ m % 2 < 2 := Nat.mod_lt _ (by omega)
        generalize hg : a / 2 ^ (m + 1) % b = g at *
        have e1 : nextR a b m = 2 * g + a / 2 ^ m % 2 := by unfold nextR; rw [hg]
        generalize a / 2 ^ m % 2 = t at *
        rw [e1, show (2 : Nat) ^ min 63 64 = 9223372036854775808 from rfl]
        by_cases hc : 2 ^ 128 ≤ 2 * g + t
        · rw [decide_eq_true hc]
          have : g / 18446744073709551616 / 9223372036854775808 = 1 := by omega
          rw [this]; rfl
        · rw [decide_eq_false hc]
          have : g / 18446744073709551616 / 9223372036854775808 = 0 := by omega
          rw [this]; rfl
      have hsub := sub_runs (nextR a b m % 2 ^ 128) b (Nat.mod_lt _ (by omega)) hb
      have hq2 := or_runs (a / 2 ^ (m + 1) / b * 2 ^ (m + 1)) (2 ^ m) hqm (by omega)
      have eq2 : (a / 2 ^ (m + 1) / b * 2 ^ (m + 1)) ||| 2 ^ m = (2 * (a / 2 ^ (m + 1) / b) + 1) * 2 ^ m := by
        rw [or_add (Nat.pow_lt_pow_right (by omega) (by omega)), Nat.pow_succ, Nat.add_mul, Nat.one_mul, Nat.mul_comm 2, Nat.mul_assoc, Nat.mul_comm 2]
      rw [eq2] at hq2
      have more : b ≤ nextR a b m → a / 2 ^ m / b = 2 * (a / 2 ^ (m + 1) / b) + 1 ∧ a / 2 ^ m % b = (nextR a b m % 2 ^ 128 + 2 ^ 128 - b) % 2 ^ 128 := by
        intro hle
        have e : a / 2 ^ m = b * (2 * (a / 2 ^ (m + 1) / b) + 1) + (nextR a b m - b) := by
          rw [Nat.mul_add, Nat.mul_one]; omega
        obtain ⟨e1, e2⟩ := div_less (show nextR a b m - b < b by omega) e
        exact ⟨e1, by rw [e2]; omega⟩
      have less : nextR a b m < b → a / 2 ^ m / b * 2 ^ m = a / 2 ^ (m + 1) / b * 2 ^ (m + 1) ∧ a / 2 ^ m % b = nextR a b m % 2 ^ 128 := by
        intro hlt
        obtain ⟨e1, e2⟩ := div_less hlt hxe
        exact ⟨by rw [e1, Nat.pow_succ, Nat.mul_comm 2, Nat.mul_assoc, Nat.mul_comm 2], by rw [e2]; omega⟩
      have hi8 : AV.t (.int .i64 (IntKind.i64.wrap (((m + 1 : Nat) : Int) - 1 - 1))) = AV.t (.int .i64 ((m : Int) - 1)) := by
        rw [i64_in _ (by omega), show ((m + 1 : Nat) : Int) - 1 - 1 = (m : Int) - 1 by omega]
      refine br_intro (fun h4 => ?_) (fun h4 => ?_)
      · have h4 : 2 ^ 128 ≤ nextR a b m := of_decide_eq_true (htop.symm.trans h4)
        obtain ⟨k1, k2⟩ := more (by omega)
        refine CallS.snap hsub rfl rfl ?_
        refine draw_intro [(0, false), (1, false), (2, false), (3, false), (4, false), (5, true), (6, true)] (by decide +kernel) ?_
        refine CallS.snap hup rfl rfl (And.intro (LeX.append _ _ _) ?_)
        refine CallS.snap hq2 rfl rfl ?_
        exact ⟨⟨m, by omega⟩, weak_of ⟨rfl, rfl, rfl, rfl, rfl, rfl, hi8, trivial⟩ (divH (by rw [k1]) k2), by show m < m + 1; omega⟩
      · have h4 : ¬ 2 ^ 128 ≤ nextR a b m := of_decide_eq_false (htop.symm.trans h4)
        refine CallS.snap (less_runs (nextR a b m % 2 ^ 128) b) rfl rfl ?_
        have hlt : nextR a b m % 2 ^ 128 = nextR a b m := Nat.mod_eq_of_lt (by omega)
        refine br_intro (fun h5 => ?_) (fun h5 => ?_)
        · have h5 : ¬ nextR a b m % 2 ^ 128 < b := by simpa using h5
          obtain ⟨k1, k2⟩ := more (by omega)
          refine CallS.snap hsub rfl rfl ?_
          refine draw_intro [(0, false), (1, false), (2, false), (3, false), (4, false), (5, true), (6, true)] (by decide +kernel) ?_
          refine CallS.snap hup rfl rfl (And.intro (LeX.append _ _ _) ?_)
          refine CallS.snap hq2 rfl rfl ?_
          exact ⟨⟨m, by omega⟩, weak_of ⟨rfl, rfl, rfl, rfl, rfl, rfl, hi8, trivial⟩ (divH (by rw [k1]) k2), by show m < m + 1; omega⟩
        · have h5 : nextR a b m % 2 ^ 128 < b := by simpa using h5
          obtain ⟨k1, k2⟩ := less (by omega)
          exact ⟨⟨m, by omega⟩, weak_of ⟨rfl, rfl, rfl, rfl, rfl, rfl, hi8, trivial⟩ (divH k1 k2), by show m < m + 1; omega⟩
    · have h3 := of_decide_eq_false h3
      have hk0 : k = 0 := by omega
      subst hk0
      refine draw_introX [2, 3] [(0, false), (1, false), (2, false), (3, true)] (by decide +kernel) ?_
      refine And.intro (LeX.set (D := [2, 3]) (b := 2) _ (by decide)) ?_
      have e1 : a / 2 ^ 0 / b * 2 ^ 0 = a / b := by simp
      have e2 : a / 2 ^ 0 % b = a % b := by simp
      refine And.intro (And.intro (agg2 ?_ ?_) (And.intro (agg2 ?_ ?_) True.intro)) rfl
      · rw [e1]
      · rw [e1]
      · rw [e2]
      · rw [e2]

end Go.Proofs.Ytkjhkcpgkccocaa
