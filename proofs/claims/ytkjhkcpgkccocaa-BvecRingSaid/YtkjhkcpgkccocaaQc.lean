/-
  The laws' walks: sums and products in any order.
-/
import Derived.Test.YtkjhkcpgkccocaaQa
namespace Go.Proofs.Ytkjhkcpgkccocaa
open Go.IntWalk
set_option maxRecDepth 100000
set_option linter.unusedVariables false
set_option linter.unusedSimpArgs false

theorem bin_val {op : Int} {w n n2 : Nat} (hw : 1 ≤ w) (hw2 : w ≤ 128) (h : n < 2 ^ w) (h2 : n2 < 2 ^ w) (h7 : ¬ (op = 7 ∨ op = 8 ∨ op = 9)) (h17 : ¬ op = 17) : binT op w n w n2 = rbinW op w n n2 := by
  rw [bin_law, rbinT, if_pos ⟨⟨by omega, h⟩, by omega, h2⟩, if_neg h7, if_neg h17, if_pos rfl, Int.toNat_natCast]

theorem bin_at {op : Int} {w n n2 v : Nat} (hw : 1 ≤ w) (hw2 : w ≤ 128) (h : n < 2 ^ w) (h2 : n2 < 2 ^ w) (h7 : ¬ (op = 7 ∨ op = 8 ∨ op = 9)) (h17 : ¬ op = 17) (hv : rbinW op w n n2 = bt w v) :
    Runs Try.prog 14 [.int .i64 op, bt w n, bt w n2] (.t (bt w v)) := by
  have hP := pow_le128 hw2
  have := bin_runs op w n w n2 (by omega) (by omega)
  rw [bin_val hw hw2 h h2 h7 h17, hv] at this
  exact this

theorem sum_at {w n n2 v : Nat} (hw : 1 ≤ w) (hw2 : w ≤ 128) (h : n < 2 ^ w) (h2 : n2 < 2 ^ w) (hv : (n + n2) % 2 ^ w = v) : Runs Try.prog 25 [bt w n, bt w n2] (.t (bt w v)) := by
  refine Runs.of_call ?_ rfl
  refine CallS.of_fn tab_ok reg_ok Try.func25 rfl rfl ?_
  refine CallS.snap (bin_at (op := 1) (v := v) hw hw2 h h2 (by omega) (by omega) (by rw [← hv]; rfl)) rfl rfl ?_
  exact And.intro rfl rfl

theorem mul_at {w n n2 v : Nat} (hw : 1 ≤ w) (hw2 : w ≤ 128) (h : n < 2 ^ w) (h2 : n2 < 2 ^ w) (hv : n * n2 % 2 ^ w = v) : Runs Try.prog 26 [bt w n, bt w n2] (.t (bt w v)) := by
  refine Runs.of_call ?_ rfl
  refine CallS.of_fn tab_ok reg_ok Try.func26 rfl rfl ?_
  refine CallS.snap (bin_at (op := 3) (v := v) hw hw2 h h2 (by omega) (by omega) (by rw [← hv]; rfl)) rfl rfl ?_
  exact And.intro rfl rfl

theorem sub_back {w n n2 : Nat} (h : n < 2 ^ w) (h2 : n2 < 2 ^ w) : ((n + n2) % 2 ^ w + compl n2 w + 1) % 2 ^ w = n := by
  have e := Nat.div_add_mod (n + n2) (2 ^ w)
  have : ((n + n2) % 2 ^ w + compl n2 w + 1) % 2 ^ w = n % 2 ^ w := by
    refine mod_of_int (z := (n : Int)) (1 - (((n + n2) / 2 ^ w : Nat) : Int)) 0 ?_ (by omega)
    rw [compl, Nat.mod_eq_of_lt h2, Int.mul_sub, ← Int.natCast_mul]
    generalize 2 ^ w * ((n + n2) / 2 ^ w) = x at *
    omega
  rw [this, Nat.mod_eq_of_lt h]

theorem neg_back {w n : Nat} (h : n < 2 ^ w) : (n + negW n w % 2 ^ w) % 2 ^ w = 0 := by
  rw [negW, Nat.mod_mod, Nat.mod_eq_of_lt h, Nat.add_mod_mod, show n + (2 ^ w - n) = 2 ^ w by omega, Nat.mod_self]

theorem ring_runs (w : Int) (n : Nat) (w2 : Int) (n2 : Nat) (w3 : Int) (n3 : Nat) (hn : n < 2 ^ 128) (hn2 : n2 < 2 ^ 128) (hn3 : n3 < 2 ^ 128) : Runs Try.prog 9 [bt w n, bt w2 n2, bt w3 n3] (.t (.bool true)) := by
  refine Runs.of_call ?_ rfl
  refine CallS.of_fn tab_ok reg_ok Try.func9 rfl rfl ?_
  refine CallS.pure alive_runs rfl ?_
  refine CallS.snap (normal_runs w n hn) rfl rfl ?_
  refine br_intro (fun _ => And.intro rfl rfl) (fun h1 => ?_)
  have h1 : isN w n := by simpa using h1
  refine CallS.snap (normal_runs w2 n2 hn2) rfl rfl ?_
  refine br_intro (fun _ => And.intro rfl rfl) (fun h2 => ?_)
  have h2 : isN w2 n2 := by simpa using h2
  refine CallS.snap (normal_runs w3 n3 hn3) rfl rfl ?_
  refine br_intro (fun _ => And.intro rfl rfl) (fun h3 => ?_)
  have h3 : isN w3 n3 := by simpa using h3
  refine br_intro (fun _ => And.intro rfl rfl) (fun e => ?_)
  have e : w = w2 := by simpa using e
  subst e
  refine br_intro (fun _ => And.intro rfl rfl) (fun e => ?_)
  have e : w = w3 := by simpa using e
  subst e
  have hw := h1.1
  obtain ⟨w, rfl⟩ := Int.eq_ofNat_of_zero_le (show 0 ≤ w by omega)
  have l1 : n < 2 ^ w := h1.2
  have l2 : n2 < 2 ^ w := h2.2
  have l3 : n3 < 2 ^ w := h3.2
  have ha : 1 ≤ w := by omega
  have hb : w ≤ 128 := by omega
  have lt : ∀ x, x % 2 ^ w < 2 ^ w := fun x => Nat.mod_lt _ (Nat.pow_pos (by omega))
  have s1 := sum_at ha hb l1 l2 rfl
  have s2 := sum_at (v := (n + n2) % 2 ^ w) ha hb l2 l1 (by rw [Nat.add_comm])
  have s3 := sum_at (v := (n + n2 + n3) % 2 ^ w) ha hb (lt (n + n2)) l3 (Nat.mod_add_mod _ _ _)
  have s4 := sum_at ha hb l2 l3 rfl
  have s5 := sum_at (v := (n + n2 + n3) % 2 ^ w) ha hb l1 (lt (n2 + n3)) (by rw [Nat.add_mod_mod, Nat.add_assoc])
  have m1 := mul_at ha hb l1 l2 rfl
  have m2 := mul_at (v := n * n2 % 2 ^ w) ha hb l2 l1 (by rw [Nat.mul_comm])
  have m3 := mul_at (v := n * (n2 + n3) % 2 ^ w) ha hb l1 (lt (n2 + n3)) (by rw [Nat.mul_mod_mod])
  have m4 := mul_at ha hb l1 l3 rfl
  have s6 := sum_at (v := n * (n2 + n3) % 2 ^ w) ha hb (lt (n * n2)) (lt (n * n3)) (by rw [← Nat.add_mod, Nat.mul_add])
  have d1 := bin_at (op := 2) (v := n) ha hb (lt (n + n2)) l2 (by omega) (by omega) (by show bt w (((n + n2) % 2 ^ w + compl n2 w + 1) % 2 ^ w) = _; rw [sub_back l1 l2])
  have u1 := un_runs 19 w n hn
  have ev : unT 19 w n = bt w (negW n w % 2 ^ w) := by rw [un_law, runT, if_pos h1, if_neg (by omega), if_pos rfl, Int.toNat_natCast]
  rw [ev] at u1
  have s7 := sum_at (v := 0) ha hb l1 (lt (negW n w)) (neg_back l1)
  have k1 := make_runs w 0 (by omega)
  have ek : makeT w 0 = bt w 0 := by rw [makeT, if_pos (by omega), msk hb, Nat.zero_mod]
  rw [ek] at k1
  refine draw_intro [(0, false), (1, false), (3, false), (4, false), (2, false), (5, true), (6, false), (7, false), (8, false), (9, false), (11, false), (13, false), (14, false), (15, false), (10, false), (12, false), (16, false), (17, true), (18, false), (19, false), (20, false), (21, false), (22, false), (24, false), (25, false), (23, false), (26, true), (27, false), (28, false), (29, false), (30, false), (31, false), (32, false), (35, false), (36, false), (38, false), (39, false), (33, false), (34, false), (37, false), (40, true), (41, true), (42, false), (43, false), (44, false), (45, false), (46, false), (48, false), (50, false), (47, false), (49, false), (51, false), (52, false), (53, false), (54, false), (55, false), (58, false), (59, false), (56, false), (57, false), (60, true), (61, false), (62, false), (63, true)] (by decide +kernel) ?_
  refine CallS.snap s1 rfl rfl (And.intro (LeX.append _ _ _) ?_)
  refine CallS.snap s2 rfl rfl ?_
  refine And.intro eq25 (opt_intro (a := true) (congrArg some (eqSelf _ _)) ?_)
  refine CallS.snap s1 rfl rfl (And.intro (LeX.append _ _ _) ?_)
  refine CallS.snap s3 rfl rfl (And.intro (LeX.append _ _ _) ?_)
  refine CallS.snap s4 rfl rfl (And.intro (LeX.append _ _ _) ?_)
  refine CallS.snap s5 rfl rfl ?_
  refine And.intro eq25 (opt_intro (a := true) (congrArg some (eqSelf _ _)) ?_)
  refine CallS.snap m1 rfl rfl (And.intro (LeX.append _ _ _) ?_)
  refine CallS.snap m2 rfl rfl ?_
  refine And.intro eq25 (opt_intro (a := true) (congrArg some (eqSelf _ _)) ?_)
  refine CallS.snap s4 rfl rfl (And.intro (LeX.append _ _ _) ?_)
  refine CallS.snap m3 rfl rfl (And.intro (LeX.append _ _ _) ?_)
  refine CallS.snap m1 rfl rfl (And.intro (LeX.append _ _ _) ?_)
  refine CallS.snap m4 rfl rfl ?_
  refine CallS.snap s6 rfl rfl ?_
  refine And.intro eq25 (opt_intro (a := true) (congrArg some (eqSelf _ _)) ?_)
  refine CallS.snap s1 rfl rfl (And.intro (LeX.append _ _ _) ?_)
  refine CallS.snap d1 rfl rfl (And.intro (LeX.append _ _ _) ?_)
  refine And.intro eq25 (opt_intro (a := true) (congrArg some (eqSelf _ _)) ?_)
  refine CallS.snap u1 rfl rfl (And.intro (LeX.append _ _ _) ?_)
  refine CallS.snap s7 rfl rfl (And.intro (LeX.append _ _ _) ?_)
  refine CallS.snap k1 rfl rfl ?_
  refine And.intro eq25 (opt_intro (a := true) (congrArg some (eqSelf _ _)) ?_)
  exact And.intro rfl rfl

end Go.Proofs.Ytkjhkcpgkccocaa
