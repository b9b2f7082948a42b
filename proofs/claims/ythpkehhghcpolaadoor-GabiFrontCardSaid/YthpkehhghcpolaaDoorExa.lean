/-
  Where the data lie in an executable's file (plain).
-/
import Derived.Test.YthpkehhghcpolaaDoorEx9
namespace Go.Proofs.YthpkehhghcpolaaDoor
open Go.IntWalk
set_option linter.unusedVariables false

theorem off_mod (a v j : Nat) (h : a ≤ 18446744073709551616) (hj : j < 64) : (a + ((v + 18446744073709551616 - a) % 18446744073709551616) % 2 ^ j) % 2 ^ j = v % 2 ^ j := by
  have hd : 2 ^ j ∣ 18446744073709551616 := by rw [show (18446744073709551616 : Nat) = 2 ^ 64 from rfl]; exact Nat.pow_dvd_pow 2 (by omega)
  rw [Nat.mod_mod_of_dvd _ hd, Nat.add_mod_mod, show a + (v + 18446744073709551616 - a) = v + 18446744073709551616 by omega, Nat.add_mod, Nat.mod_eq_zero_of_dvd hd, Nat.add_zero, Nat.mod_mod]

theorem step_le (a : Nat) (h : HdD) : a ≤ stepAt a h := by unfold stepAt; split <;> omega
theorem end_le : ∀ (l : List HdD) (a : Nat), a ≤ endOf a l
  | [], a => Nat.le_refl _
  | h :: r, a => Nat.le_trans (step_le a h) (end_le r _)

theorem offs_at : ∀ (l : List HdD) (a i : Nat) (hi : i < l.length), ∃ a', a' ≤ endOf a l ∧ (offsOf a l)[i]'(by rw [offsOf_len]; exact hi) = a' + gapOf a' l[i] ∧ (0 < l[i].d.length → a' + gapOf a' l[i] + l[i].d.length ≤ endOf a l)
  | h :: r, a, 0, hi => by
    refine ⟨a, end_le _ _, rfl, fun hp => ?_⟩
    have := end_le r (stepAt a h)
    simp only [List.getElem_cons_zero, endOf] at hp ⊢
    rw [stepAt, if_neg (by omega)] at this
    rw [stepAt, if_neg (by omega)]
    omega
  | h :: r, a, i + 1, hi => by
    obtain ⟨a', h1, h2, h3⟩ := offs_at r (stepAt a h) i (by simpa using hi)
    exact ⟨a', h1, h2, h3⟩

/-- What is known of a header of a sound executable. -/
structure HdOK (h : HdD) : Prop where
  k : h.k = 1 ∨ h.k = 7
  fl : h.fl ≤ 7
  v : h.v ≤ 70368744177664
  sz : h.sz ≤ 67108864
  d : h.d.length ≤ h.sz
  al : ∃ j, j < 64 ∧ h.al = 2 ^ j

theorem good_hd (x : ExeD) (r : List UInt8) (hn : (hdsOf x).length < 65536) (he : (fileL x).length ≤ 67108864) (i : Nat) (hi : i < (hdsOf x).length) (ok : HdOK (hdsOf x)[i]) : ¬ badP (fileL x ++ r) i := by
  have ho := offsOf_len (hdsOf x) (64 + 56 * (hdsOf x).length)
  have e : fileL x ++ r = frontB x (hdsOf x).length ++ (hdsB (hdsOf x) (offsOf (64 + 56 * (hdsOf x).length) (hdsOf x)) ++ (bodyOf (64 + 56 * (hdsOf x).length) (hdsOf x) ++ r)) := by simp [fileL, List.append_assoc]
  have hs := fun d n hd => sF_file x (hdsOf x) _ (bodyOf (64 + 56 * (hdsOf x).length) (hdsOf x) ++ r) ho hn i hi d n hd
  rw [← e] at hs
  obtain ⟨a', h1, h2, h3⟩ := offs_at (hdsOf x) (64 + 56 * (hdsOf x).length) i hi
  rw [fileL_len] at he
  have hl : (fileL x ++ r).length = endOf (64 + 56 * (hdsOf x).length) (hdsOf x) + r.length := by rw [List.length_append, fileL_len]
  obtain ⟨j, hj, hal⟩ := ok.al
  have hp : 2 ^ j < 18446744073709551616 := by rw [show (18446744073709551616 : Nat) = 2 ^ 64 from rfl]; exact Nat.pow_lt_pow_right (by omega) hj
  have hp0 : 0 < 2 ^ j := Nat.pos_of_ne_zero (by simp)
  have o1 := ok.v; have o2 := ok.sz; have o3 := ok.d
  have om := off_mod a' (hdsOf x)[i].v j (by omega) hj
  have hg : gapOf a' (hdsOf x)[i] < 2 ^ j := by rw [gapOf, hal]; exact Nat.mod_lt _ hp0
  have f8 := hs 8 8 (by omega); have f16 := hs 16 8 (by omega); have f32 := hs 32 8 (by omega); have f40 := hs 40 8 (by omega); have f48 := hs 48 8 (by omega)
  rw [hd_8, h2] at f8
  rw [hd_16] at f16
  rw [hd_32] at f32
  rw [hd_40] at f40
  rw [hd_48, hal, Nat.mod_eq_of_lt hp] at f48
  rw [Nat.mod_eq_of_lt (by omega)] at f16 f32 f40
  rw [gapOf, hal] at hg h3 f8
  rw [badP, f8, f16, f32, f40, f48, hl]
  rintro (h | ⟨h, h'⟩ | h | h | h | ⟨h, h'⟩)
  · omega
  · have := h3 h
    rw [Nat.mod_eq_of_lt (by omega)] at h'
    omega
  · omega
  · omega
  · exact h (.inr ⟨j, hj, rfl⟩)
  · refine h' ?_
    have hd : 2 ^ j ∣ 18446744073709551616 := by rw [show (18446744073709551616 : Nat) = 2 ^ 64 from rfl]; exact Nat.pow_dvd_pow 2 (by omega)
    rw [Nat.mod_mod_of_dvd _ hd, om]

end Go.Proofs.YthpkehhghcpolaaDoor
