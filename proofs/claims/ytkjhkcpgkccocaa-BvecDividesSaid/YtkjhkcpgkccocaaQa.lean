/-
  The laws' walks: the first example; every operation on two.
-/
import Derived.Test.YtkjhkcpgkccocaaPc
namespace Go.Proofs.Ytkjhkcpgkccocaa
open Go.IntWalk
set_option maxRecDepth 100000
set_option linter.unusedVariables false
set_option linter.unusedSimpArgs false

theorem fa {w n : Int} (hn : -9223372036854775808 ≤ n ∧ n ≤ 9223372036854775807) {x : T} (h : makeT w (of128 n) = x) : Runs Try.prog 17 [.int .i64 w, .int .i64 n] (.t x) := h ▸ fromInt_runs w n hn

theorem alive_runs : Runs Try.prog 13 [] (.t (.bool true)) := by
  refine Runs.of_call ?_ rfl
  refine CallS.of_fn tab_ok reg_ok Try.func13 rfl rfl ?_
  have f1 := fa (w := 8) (n := -1) (by omega) (x := bt 8 255) (by kernel_rfl)
  have f2 := fa (w := 8) (n := -7) (by omega) (x := bt 8 249) (by kernel_rfl)
  have f3 := fa (w := 8) (n := 2) (by omega) (x := bt 8 2) (by kernel_rfl)
  have f4 := fa (w := 8) (n := -3) (by omega) (x := bt 8 253) (by kernel_rfl)
  have f5 := bin_runs 12 8 249 8 2 (by omega) (by omega)
  have e5 : binT 12 8 249 8 2 = bt 8 253 := by kernel_rfl
  rw [e5] at f5
  refine CallS.pure f1 rfl ?_
  refine And.intro eq25 ?_
  refine CallS.pure f2 rfl ?_
  refine CallS.pure f3 rfl ?_
  refine CallS.pure f5 rfl ?_
  refine CallS.pure f4 rfl ?_
  refine And.intro eq25 ?_
  exact And.intro rfl rfl

/-- Some bits. -/
def IsB (x : T) : Prop := ∃ w v, x = bt w v
theorem isB (w : Int) (v : Nat) : IsB (bt w v) := ⟨_, _, rfl⟩
theorem isB_ite {p : Prop} [Decidable p] {a b : T} (ha : IsB a) (hb : IsB b) : IsB (if p then a else b) := by split <;> assumption
theorem make_B (w : Int) (n : Nat) : IsB (makeT w n) := isB_ite (isB _ _) (isB _ _)
theorem ext_B (w : Int) (n : Nat) (hi lo : Int) : IsB (extT w n hi lo) := isB_ite (isB _ _) (isB _ _)
theorem ins_B (w : Int) (n : Nat) (lo w2 : Int) (n2 : Nat) : IsB (insT w n lo w2 n2) := isB_ite (isB _ _) (isB _ _)
theorem un_B (op w : Int) (n : Nat) : IsB (unT op w n) := isB_ite (isB_ite (isB _ _) (isB_ite (isB _ _) (isB _ _))) (isB _ _)

theorem bin_B (op w : Int) (n : Nat) (w2 : Int) (n2 : Nat) : IsB (binT op w n w2 n2) := by
  have hd : IsB (divT op w n n2) := by obtain ⟨v, h⟩ := divT_bt op w n n2; exact ⟨_, v, h⟩
  have hs : IsB (shiftT op w n n2) := by
    obtain ⟨v1, h1⟩ := shl_bt w n n2
    obtain ⟨v2, h2⟩ := shr_bt w n n2
    obtain ⟨v3, h3⟩ := sar_bt w n n2
    exact isB_ite ⟨_, v1, h1⟩ (isB_ite ⟨_, v2, h2⟩ ⟨_, v3, h3⟩)
  have hw : IsB (binW op w n n2) := by
    unfold binW
    repeat first | exact isB _ _ | exact hd | refine isB_ite ?_ ?_
  exact isB_ite (isB_ite hs (isB_ite (isB_ite (isB _ _) (isB _ _)) (isB_ite hw (isB _ _)))) (isB _ _)

theorem eqSelf (w : Int) (v : Nat) : (w == w && (((v / 18446744073709551616 : Nat) : Int) == ((v / 18446744073709551616 : Nat) : Int) && (((v % 18446744073709551616 : Nat) : Int) == ((v % 18446744073709551616 : Nat) : Int) && true))) = true := by simp

theorem bins_runs (op w : Int) (n : Nat) (w2 : Int) (n2 : Nat) (hn : n < 2 ^ 128) (hn2 : n2 < 2 ^ 128) : Runs Try.prog 4 [.int .i64 op, bt w n, bt w2 n2] (.t (.bool true)) := by
  refine Runs.of_call ?_ rfl
  refine CallS.of_fn tab_ok reg_ok Try.func4 rfl rfl ?_
  have h1 := bin_runs op w n w2 n2 hn hn2
  have h2 := rbin_runs op w n w2 n2 hn hn2
  rw [← bin_law] at h2
  obtain ⟨w', v, e⟩ := bin_B op w n w2 n2
  rw [e] at h1 h2
  refine draw_intro [(0, true), (1, false), (2, false), (3, false), (4, false), (6, false), (7, false), (8, false), (5, false), (9, true), (10, false), (11, false), (12, true)] (by decide +kernel) ?_
  refine CallS.pure alive_runs rfl ?_
  refine CallS.snap h1 rfl rfl (And.intro (LeX.append _ _ _) ?_)
  refine CallS.snap h2 rfl rfl ?_
  refine And.intro eq25 ?_
  exact And.intro (congrArg (fun b => some (T.bool b)) (by simp)) rfl

theorem names_runs : Runs Try.prog 3 [] (.t (.bool true)) := by
  refine Runs.of_call ?_ rfl
  refine CallS.of_fn tab_ok reg_ok Try.func3 rfl rfl ?_
  refine CallS.pure alive_runs rfl ?_
  exact And.intro rfl rfl

theorem uns_runs (op w : Int) (n : Nat) (hn : n < 2 ^ 128) : Runs Try.prog 8 [.int .i64 op, bt w n] (.t (.bool true)) := by
  refine Runs.of_call ?_ rfl
  refine CallS.of_fn tab_ok reg_ok Try.func8 rfl rfl ?_
  have h1 := un_runs op w n hn
  have h2 := run_runs op w n hn
  rw [← un_law] at h2
  obtain ⟨w', v, e⟩ := un_B op w n
  rw [e] at h1 h2
  refine draw_intro [(0, true), (1, false), (2, false), (3, false), (5, false), (6, false), (4, false), (7, true), (8, false), (9, false), (10, false), (11, false), (13, false), (12, false), (14, true), (15, false), (16, false), (17, true)] (by decide +kernel) ?_
  refine CallS.pure alive_runs rfl ?_
  refine CallS.snap h1 rfl rfl (And.intro (LeX.append _ _ _) ?_)
  refine CallS.snap h2 rfl rfl ?_
  refine And.intro eq25 (opt_intro (a := true) (congrArg some (eqSelf _ _)) ?_)
  refine CallS.snap (normal_runs w n hn) rfl rfl (And.intro (LeX.append _ _ _) ?_)
  refine CallS.snap (rnormal_runs w n hn) rfl rfl ?_
  exact And.intro (congrArg (fun b => some (T.bool b)) (by simp)) rfl

theorem parts_runs (w : Int) (n : Nat) (w2 : Int) (n2 : Nat) (x y : Int) (hn : n < 2 ^ 128) (hn2 : n2 < 2 ^ 128) : Runs Try.prog 6 [bt w n, bt w2 n2, .agg [.int .i64 x, .int .i64 y]] (.t (.bool true)) := by
  refine Runs.of_call ?_ rfl
  refine CallS.of_fn tab_ok reg_ok Try.func6 rfl rfl ?_
  have h1 := extract_runs w n x y hn
  have h2 := rextract_runs w n x y hn
  rw [← ext_law] at h2
  obtain ⟨w', v, e⟩ := ext_B w n x y
  rw [e] at h1 h2
  have h3 := insert_runs w n y w2 n2 hn hn2
  have h4 := rinsert_runs w n y w2 n2 hn hn2
  rw [← ins_law] at h4
  obtain ⟨w'', v', e⟩ := ins_B w n y w2 n2
  rw [e] at h3 h4
  refine draw_intro [(0, true), (1, false), (2, false), (3, false), (4, false), (5, false), (6, false), (8, false), (9, false), (10, false), (11, false), (12, false), (7, false), (13, true), (14, false), (15, false), (16, false), (17, false), (18, false), (19, false), (20, false), (22, false), (23, false), (24, false), (25, false), (21, false), (26, true), (27, false), (28, false), (29, true)] (by decide +kernel) ?_
  refine CallS.pure alive_runs rfl ?_
  refine CallS.snap h1 rfl rfl (And.intro (LeX.append _ _ _) ?_)
  refine CallS.snap h2 rfl rfl ?_
  refine And.intro eq25 (opt_intro (a := true) (congrArg some (eqSelf _ _)) ?_)
  refine CallS.snap h3 rfl rfl (And.intro (LeX.append _ _ _) ?_)
  refine CallS.snap h4 rfl rfl ?_
  refine And.intro eq25 (opt_intro (a := true) (congrArg some (eqSelf _ _)) ?_)
  exact And.intro rfl rfl

theorem intR_tup (w : Int) (n : Nat) : ∃ i b, intR w n = .tup [.t (.int .i64 i), .t (.bool b)] := by
  unfold intR
  split <;> exact ⟨_, _, rfl⟩

theorem widths_runs (w : Int) (n : Nat) (x y : Int) (hn : n < 2 ^ 128) (hy : -9223372036854775808 ≤ y ∧ y ≤ 9223372036854775807) : Runs Try.prog 11 [bt w n, .int .i64 x, .int .i64 y] (.t (.bool true)) := by
  refine Runs.of_call ?_ rfl
  refine CallS.of_fn tab_ok reg_ok Try.func11 rfl rfl ?_
  have h1 := int_runs w n hn
  have h2 := rint_runs w n hn
  obtain ⟨i, b, e⟩ := intR_tup w n
  rw [e] at h1 h2
  have h3 := make_runs x n hn
  have h4 := rmake_runs x n hn
  rw [← make_law] at h4
  obtain ⟨w3, v3, e⟩ := make_B x n
  rw [e] at h3 h4
  have h5 := fromInt_runs x y hy
  have h6 := rfrom_runs x y hy
  rw [← from_law x y hy] at h6
  obtain ⟨w5, v5, e⟩ := make_B x (of128 y)
  rw [e] at h5 h6
  have h7 := zext_runs w n x hn
  have h8 := rext_runs w n x false hn
  rw [← zext_law] at h8
  obtain ⟨w7, v7, e⟩ : IsB (if isN w n then makeT x n else bt 0 0) := isB_ite (make_B _ _) (isB _ _)
  rw [e] at h7 h8
  have h9 := sext_runs w n x hn
  have h10 := rext_runs w n x true hn
  rw [← sext_law] at h10
  obtain ⟨w9, v9, e⟩ : IsB (if isN w n then makeT x (sgn w n) else bt 0 0) := isB_ite (make_B _ _) (isB _ _)
  rw [e] at h9 h10
  refine CallS.pure alive_runs rfl ?_
  refine CallS.snap h1 rfl ⟨rfl, rfl, trivial⟩ ?_
  refine CallS.snap h2 rfl ⟨rfl, rfl, trivial⟩ ?_
  refine draw_intro [(0, false), (1, false), (2, false), (3, false), (4, false), (5, false), (6, false), (7, false), (8, false), (9, false), (10, false), (11, false), (12, false), (13, false), (15, false), (16, false), (17, false), (18, false), (19, false), (14, false), (20, true), (21, false), (22, false), (23, false), (24, false), (25, false), (27, false), (28, false), (26, false), (29, true), (30, false), (31, false), (32, false), (33, false), (34, false), (36, false), (37, false), (35, false), (38, true), (39, false), (40, false), (41, false), (42, false), (43, false), (45, false), (46, false), (44, false), (47, true), (48, false), (49, false), (50, true)] (by decide +kernel) ?_
  refine br_intro (fun _ => ?_) (fun h => absurd h (by simp))
  refine br_intro (fun _ => ?_) (fun h => absurd h (by simp))
  refine CallS.snap h3 rfl rfl (And.intro (LeX.append _ _ _) ?_)
  refine CallS.snap h4 rfl rfl ?_
  refine And.intro eq25 (opt_intro (a := true) (congrArg some (eqSelf _ _)) ?_)
  refine CallS.snap h5 rfl rfl (And.intro (LeX.append _ _ _) ?_)
  refine CallS.snap h6 rfl rfl ?_
  refine And.intro eq25 (opt_intro (a := true) (congrArg some (eqSelf _ _)) ?_)
  refine CallS.snap h7 rfl rfl (And.intro (LeX.append _ _ _) ?_)
  refine CallS.snap h8 rfl rfl ?_
  refine And.intro eq25 (opt_intro (a := true) (congrArg some (eqSelf _ _)) ?_)
  refine CallS.snap h9 rfl rfl (And.intro (LeX.append _ _ _) ?_)
  refine CallS.snap h10 rfl rfl ?_
  refine And.intro eq25 (opt_intro (a := true) (congrArg some (eqSelf _ _)) ?_)
  exact And.intro rfl rfl

end Go.Proofs.Ytkjhkcpgkccocaa
