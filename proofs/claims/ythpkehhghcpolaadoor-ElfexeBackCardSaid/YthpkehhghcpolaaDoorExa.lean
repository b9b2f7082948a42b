/-
  Where the data lie in an executable's file (plain).
-/
import Derived.Test.YthpkehhghcpolaaDoorEx9
namespace Go.Proofs.YthpkehhghcpolaaDoor
open Go.IntWalk
set_option linter.unusedVariables false

theorem off_mod (a v j : Nat) (h : a ≤ 18446744073709551616) (hj : j < 64) : (a + ((v + 18446744073709551616 - a) % 18446744073709551616) % 2 ^ j) % 2 ^ j = v % 2 ^ j := by
  have hd : 2 ^ j ∣ 18446744073709551616 := by rw [show (18446744073709551616 : Nat) = 2 ^ 64 from rfl]; exact Nat.pow_dvd_pow 2 (by omega)
  rw [Nat.mod_mod_of_dvd _ hd, Nat.add_mod_mod, show a + (v + 18446744073709551616 - a) = v + 18446744073709551616 by omega, Nat.add_mod, Nat.mod_eq_zero_of_dvd hd, Nat.add_zero, Nat.mod_mod]

theorem step_le (a : Nat) (h : HdD) : a ≤ stepAt a h := by unfold stepAt; split <;> omega
theorem end_le : ∀ (l : List HdD) (a : Nat), a ≤ endOf a l
  | [], a => Nat.le_refl _
  | h :: r, a => Nat.le_trans (step_le a h) (end_le r _)

theorem offs_at : ∀ (l : List HdD) (a i : Nat) (hi : i < l.length), ∃ a', a' ≤ endOf a l ∧ (offsOf a l)[i]'(by rw [offsOf_len]; exact hi) = a' + gapOf a' l[i] ∧ (0 < l[i].d.length → a' + gapOf a' l[i] + l[i].d.length ≤ endOf a l)
  | h :: r, a, 0, hi => by
    refine ⟨a, end_le _ _, rfl, fun hp => ?_⟩
    have := end_le r (stepAt a h)
    simp only [List.getElem_cons_zero, endOf] at hp ⊢
    rw [stepAt, if_neg (by omega)] at this
    rw [stepAt, if_neg (by omega)]
    omega
  | h :: r, a, i + 1, hi => by
    obtain ⟨a', h1, h2, h3⟩ := offs_at r (stepAt a h) i (by simpa using hi)
    exact ⟨a', h1, h2, h3⟩

/-- What is known of a header of a sound executable. -/
structure HdOK (h : HdD) : Prop where
  k : h.k = 1 ∨ h.k = 7
  fl : h.fl ≤ 7
  v : h.v ≤ 70368744177664
  sz : h.sz ≤ 67108864
  d : h.d.length ≤ h.sz
  al : ∃ j, j < 64 ∧ h.al = 2 ^ j

end Go.Proofs.YthpkehhghcpolaaDoor
