/-
  Numbers of 128 bits: division with and without signs.
-/
import Derived.Test.YtkjhkcpgkccocaaBv7
namespace Go.Proofs.Ytkjhkcpgkccocaa
open Go.IntWalk
set_option maxRecDepth 100000
set_option linter.unusedVariables false
set_option linter.unusedSimpArgs false

theorem eq49 : Try.prog.stoodInHeld 49 = false ∧ Try.prog.eqGuardType Try.prog.depth 49 = false := ⟨by kernel_rfl, by kernel_rfl⟩

theorem nil_eq (n : Nat) (hn : n < 2 ^ 128) : (((n / 18446744073709551616 : Nat) : Int) == 0 && (((n % 18446744073709551616 : Nat) : Int) == 0 && true)) = decide (n = 0) := by
  by_cases h : n = 0
  · subst h; rfl
  · rw [decide_eq_false h, Bool.eq_false_iff]
    intro hh
    simp at hh
    omega

theorem divide_u (op : Int) (hop : op = 10 ∨ op = 11) (w : Int) (n : Nat) (w2 : Int) (n2 : Nat) (h : isN w n) (hn2 : n2 < 2 ^ 128) :
    Runs Try.prog 49 [.int .i64 op, bt w n, bt w2 n2] (.t (divT op w n n2)) := by
  have hn := isN_lt h
  have hw := h.1
  have hz := nil_eq n2 hn2
  have hto := fun v (hv : v < 2 ^ 128) => to_runs w (by omega) (by omega) v hv
  rcases hop with rfl | rfl
  all_goals
    refine Runs.of_call ?_ rfl
    refine CallS.of_fn tab_ok reg_ok Try.func49 rfl rfl ?_
    refine draw_intro [(0, false), (2, false), (4, false), (5, false), (1, false), (3, false), (6, true), (7, true)] (by decide +kernel) ?_
    refine CallS.snap (of_runs w n) rfl rfl (And.intro (LeX.append _ _ _) ?_)
    refine CallS.snap (of_runs w2 n2) rfl rfl (And.intro (LeX.append _ _ _) ?_)
    refine And.intro eq49 ?_
    refine br_intro (fun h0 => ?_) (fun h0 => ?_)
  · have h0 : n2 = 0 := of_decide_eq_true (hz.symm.trans h0)
    rw [divT, if_pos h0, if_neg (by omega)]
    refine draw_intro [(0, false), (1, false), (2, false), (3, false), (4, false), (5, true), (6, true)] (by decide +kernel) ?_
    refine CallS.snap (mask_runs w (by omega) (by omega)) rfl rfl (And.intro (LeX.append _ _ _) ?_)
    refine CallS.snap (hto _ (maskN_lt w)) rfl rfl ?_
    exact And.intro rfl rfl
  · have h0 : ¬ n2 = 0 := of_decide_eq_false (hz.symm.trans h0)
    have e : divT 10 w n n2 = bt w (n / n2 &&& maskN w) := by rw [divT, if_neg h0]; simp
    rw [e]
    refine CallS.snap (div_runs n n2 hn hn2 (by omega)) rfl ⟨rfl, rfl, trivial⟩ ?_
    refine CallS.snap (hto _ (div_lt128 n2 hn)) rfl rfl ?_
    exact And.intro rfl rfl
  · have h0 : n2 = 0 := of_decide_eq_true (hz.symm.trans h0)
    rw [divT, if_pos h0, if_pos (by omega)]
    exact And.intro rfl rfl
  · have h0 : ¬ n2 = 0 := of_decide_eq_false (hz.symm.trans h0)
    have e : divT 11 w n n2 = bt w (n % n2 &&& maskN w) := by rw [divT, if_neg h0]; simp
    rw [e]
    refine CallS.snap (div_runs n n2 hn hn2 (by omega)) rfl ⟨rfl, rfl, trivial⟩ ?_
    refine CallS.snap (hto _ (Nat.lt_trans (Nat.mod_lt _ (by omega)) hn2)) rfl rfl ?_
    exact And.intro rfl rfl

theorem negN_lt (n : Nat) : negN n < 2 ^ 128 := mod_lt128 _

theorem neg_runs' (a : Nat) (ha : a < 2 ^ 128) : Runs Try.prog 68 [wd a] (.t (wd (negN a))) := neg_runs a ha

theorem sgn_pos {w : Int} {n : Nat} (h : 0 < n) : 0 < sgn w n := by
  unfold sgn; split
  · exact Nat.lt_of_lt_of_le h Nat.left_le_or
  · exact h

theorem negN_pos {n : Nat} (h : 0 < n) (hn : n < 2 ^ 128) : 0 < negN n := by unfold negN; omega

theorem divide_s (op : Int) (hop : op = 12 ∨ op = 13) (w : Int) (n : Nat) (n2 : Nat) (h : isN w n) (h2 : isN w n2) :
    Runs Try.prog 49 [.int .i64 op, bt w n, bt w n2] (.t (divT op w n n2)) := by
  have hn := isN_lt h
  have hn2 := isN_lt h2
  have hw := h.1
  have hz := nil_eq n2 hn2
  have hto := fun v (hv : v < 2 ^ 128) => to_runs w (by omega) (by omega) v hv
  have hna := negative_runs w n h
  have hnb := negative_runs w n2 h2
  have hsa := signed_runs w n h
  have hsb := signed_runs w n2 h2
  have hga := neg_runs' (sgn w n) (sgn_lt hn)
  have hgb := neg_runs' (sgn w n2) (sgn_lt hn2)
  have hdiv := fun x y (hx : x < 2 ^ 128) (hy : y < 2 ^ 128) (h0 : 0 < y) => div_runs x y hx hy h0
  have hmod : ∀ x y, y < 2 ^ 128 → 0 < y → x % y < 2 ^ 128 := fun x y hy h0 => Nat.lt_trans (Nat.mod_lt x h0) hy
  rcases hop with rfl | rfl
  all_goals
    refine Runs.of_call ?_ rfl
    refine CallS.of_fn tab_ok reg_ok Try.func49 rfl rfl ?_
    refine draw_intro [(0, false), (2, false), (4, false), (5, false), (1, false), (3, false), (6, true), (7, true)] (by decide +kernel) ?_
    refine CallS.snap (of_runs w n) rfl rfl (And.intro (LeX.append _ _ _) ?_)
    refine CallS.snap (of_runs w n2) rfl rfl (And.intro (LeX.append _ _ _) ?_)
    refine And.intro eq49 ?_
    refine br_intro (fun h0 => ?_) (fun h0 => ?_)
  case inl.refine_1 =>
    have h0 : n2 = 0 := of_decide_eq_true (hz.symm.trans h0)
    rw [divT, if_pos h0, if_neg (by omega)]
    refine draw_intro [(0, false), (1, false), (2, false), (3, false), (4, false), (5, true), (6, true)] (by decide +kernel) ?_
    refine CallS.snap (mask_runs w (by omega) (by omega)) rfl rfl (And.intro (LeX.append _ _ _) ?_)
    refine CallS.snap (hto _ (maskN_lt w)) rfl rfl ?_
    exact And.intro rfl rfl
  case inr.refine_1 =>
    have h0 : n2 = 0 := of_decide_eq_true (hz.symm.trans h0)
    rw [divT, if_pos h0, if_pos (by omega)]
    exact And.intro rfl rfl
  all_goals
    have h0 : ¬ n2 = 0 := of_decide_eq_false (hz.symm.trans h0)
    have h0' : 0 < n2 := by omega
    have hs0 := negN_pos (sgn_pos (w := w) h0') (sgn_lt hn2)
    cases ha : negB w n <;> cases hb : negB w n2 <;> rw [ha] at hna <;> rw [hb] at hnb
    all_goals
      refine CallS.snap hna rfl rfl ?_
      refine CallS.snap hnb rfl rfl ?_
  · have e : divT 12 w n n2 = bt w (((n) / (n2)) &&& maskN w) := by
      rw [divT, if_neg h0]; simp [ha, hb]
    rw [e]
    refine CallS.snap (hdiv (n) (n2) (hn) (hn2) h0') rfl ⟨rfl, rfl, trivial⟩ ?_
    refine CallS.snap (hto _ (div_lt128 _ (hn))) rfl rfl ?_
    exact And.intro rfl rfl
  · have e : divT 12 w n n2 = bt w ((negN ((n) / (negN (sgn w n2)))) &&& maskN w) := by
      rw [divT, if_neg h0]; simp [ha, hb]
    rw [e]
    refine CallS.snap hsb rfl rfl ?_
    refine CallS.snap hgb rfl rfl ?_
    refine CallS.snap (hdiv (n) (negN (sgn w n2)) (hn) (negN_lt _) hs0) rfl ⟨rfl, rfl, trivial⟩ ?_
    refine CallS.snap (neg_runs' ((n) / (negN (sgn w n2))) (div_lt128 _ (hn))) rfl rfl ?_
    refine CallS.snap (hto _ (negN_lt _)) rfl rfl ?_
    exact And.intro rfl rfl
  · have e : divT 12 w n n2 = bt w ((negN ((negN (sgn w n)) / (n2))) &&& maskN w) := by
      rw [divT, if_neg h0]; simp [ha, hb]
    rw [e]
    refine CallS.snap hsa rfl rfl ?_
    refine CallS.snap hga rfl rfl ?_
    refine CallS.snap (hdiv (negN (sgn w n)) (n2) (negN_lt _) (hn2) h0') rfl ⟨rfl, rfl, trivial⟩ ?_
    refine CallS.snap (neg_runs' ((negN (sgn w n)) % (n2)) (hmod _ _ (hn2) h0')) rfl rfl ?_
    refine CallS.snap (neg_runs' ((negN (sgn w n)) / (n2)) (div_lt128 _ (negN_lt _))) rfl rfl ?_
    refine CallS.snap (hto _ (negN_lt _)) rfl rfl ?_
    exact And.intro rfl rfl
  · have e : divT 12 w n n2 = bt w (((negN (sgn w n)) / (negN (sgn w n2))) &&& maskN w) := by
      rw [divT, if_neg h0]; simp [ha, hb]
    rw [e]
    refine CallS.snap hsa rfl rfl ?_
    refine CallS.snap hga rfl rfl ?_
    refine CallS.snap hsb rfl rfl ?_
    refine CallS.snap hgb rfl rfl ?_
    refine CallS.snap (hdiv (negN (sgn w n)) (negN (sgn w n2)) (negN_lt _) (negN_lt _) hs0) rfl ⟨rfl, rfl, trivial⟩ ?_
    refine CallS.snap (neg_runs' ((negN (sgn w n)) % (negN (sgn w n2))) (hmod _ _ (negN_lt _) hs0)) rfl rfl ?_
    refine CallS.snap (hto _ (div_lt128 _ (negN_lt _))) rfl rfl ?_
    exact And.intro rfl rfl
  · have e : divT 13 w n n2 = bt w (((n) % (n2)) &&& maskN w) := by
      rw [divT, if_neg h0]; simp [ha, hb]
    rw [e]
    refine CallS.snap (hdiv (n) (n2) (hn) (hn2) h0') rfl ⟨rfl, rfl, trivial⟩ ?_
    refine CallS.snap (hto _ (hmod _ _ (hn2) h0')) rfl rfl ?_
    exact And.intro rfl rfl
  · have e : divT 13 w n n2 = bt w (((n) % (negN (sgn w n2))) &&& maskN w) := by
      rw [divT, if_neg h0]; simp [ha, hb]
    rw [e]
    refine CallS.snap hsb rfl rfl ?_
    refine CallS.snap hgb rfl rfl ?_
    refine CallS.snap (hdiv (n) (negN (sgn w n2)) (hn) (negN_lt _) hs0) rfl ⟨rfl, rfl, trivial⟩ ?_
    refine CallS.snap (neg_runs' ((n) / (negN (sgn w n2))) (div_lt128 _ (hn))) rfl rfl ?_
    refine CallS.snap (hto _ (hmod _ _ (negN_lt _) hs0)) rfl rfl ?_
    exact And.intro rfl rfl
  · have e : divT 13 w n n2 = bt w ((negN ((negN (sgn w n)) % (n2))) &&& maskN w) := by
      rw [divT, if_neg h0]; simp [ha, hb]
    rw [e]
    refine CallS.snap hsa rfl rfl ?_
    refine CallS.snap hga rfl rfl ?_
    refine CallS.snap (hdiv (negN (sgn w n)) (n2) (negN_lt _) (hn2) h0') rfl ⟨rfl, rfl, trivial⟩ ?_
    refine CallS.snap (neg_runs' ((negN (sgn w n)) % (n2)) (hmod _ _ (hn2) h0')) rfl rfl ?_
    refine CallS.snap (neg_runs' ((negN (sgn w n)) / (n2)) (div_lt128 _ (negN_lt _))) rfl rfl ?_
    refine CallS.snap (hto _ (negN_lt _)) rfl rfl ?_
    exact And.intro rfl rfl
  · have e : divT 13 w n n2 = bt w ((negN ((negN (sgn w n)) % (negN (sgn w n2)))) &&& maskN w) := by
      rw [divT, if_neg h0]; simp [ha, hb]
    rw [e]
    refine CallS.snap hsa rfl rfl ?_
    refine CallS.snap hga rfl rfl ?_
    refine CallS.snap hsb rfl rfl ?_
    refine CallS.snap hgb rfl rfl ?_
    refine CallS.snap (hdiv (negN (sgn w n)) (negN (sgn w n2)) (negN_lt _) (negN_lt _) hs0) rfl ⟨rfl, rfl, trivial⟩ ?_
    refine CallS.snap (neg_runs' ((negN (sgn w n)) % (negN (sgn w n2))) (hmod _ _ (negN_lt _) hs0)) rfl rfl ?_
    refine CallS.snap (hto _ (negN_lt _)) rfl rfl ?_
    exact And.intro rfl rfl

end Go.Proofs.Ytkjhkcpgkccocaa
