/-
  Relocations of a description.
-/
import Derived.Test.YtnjmeadmkbkikaaGreatDoorHb
namespace Go.Proofs.YtnjmeadmkbkikaaGreatDoor
open Go.IntWalk
set_option maxRecDepth 100000
set_option linter.unusedVariables false
set_option linter.unusedSimpArgs false
set_option maxHeartbeats 1000000

def ord_66_10 : Ord := (.op 0 [] (.op 1 [] (.op 2 [] (.op 3 [] (.op 4 [] (.op 5 [] (.op 6 [] (.op 7 [] (.op 8 [] (.op 9 [] (.op 10 [] (.op 11 [] (.op 12 [] (.op 13 [] (.op 14 [] (.op 15 [] (.op 16 [15, 14] (.op 17 [15, 14] (.op 18 [] (.op 19 [] (.op 20 [] (.op 21 [] (.op 22 [] (.op 23 [22, 21] (.op 24 [22, 21] (.op 25 [22, 21] (.op 26 [22, 21] (.op 27 [] (.op 28 [] (.op 29 [] (.op 30 [] (.op 31 [] (.op 32 [31, 30] (.op 33 [31, 30] (.op 34 [] (.op 35 [] (.op 36 [35, 34, 33, 32, 31, 30] (.op 37 [35, 34, 33, 32, 31, 30] (.op 38 [35, 34, 33, 32, 31, 30] (.op 39 [38, 37, 36, 35, 34, 33, 32, 31, 30] (.op 40 [38, 37, 36, 35, 34, 33, 32, 31, 30] (.op 41 [35, 34, 33, 32, 31, 30] (.op 42 [35, 34, 33, 32, 31, 30] (.op 43 [35, 34, 33, 32, 31, 30] (.op 44 [] (.op 45 [] (.op 46 [] .nil)))))))))))))))))))))))))))))))))))))))))))))))
def ord_59_2 : Ord := (.op 0 [] (.op 1 [] (.op 2 [1, 0] (.op 3 [1, 0] (.op 4 [1, 0] (.op 5 [1, 0] (.op 6 [] (.op 7 [] (.op 8 [] (.op 9 [] (.op 10 [] (.op 11 [] (.op 12 [] (.op 13 [] (.op 14 [] (.op 15 [] (.op 16 [] (.op 17 [] (.op 18 [17, 16, 15] (.op 19 [17, 16, 15] (.op 20 [] (.op 21 [] (.op 22 [] (.op 23 [22, 21, 20, 19, 18, 17, 16, 15] (.op 24 [22, 21, 20, 19, 18, 17, 16, 15] (.op 25 [] (.op 26 [] (.op 27 [] (.op 28 [] .nil)))))))))))))))))))))))))))))
def ord_63_1 : Ord := (.op 0 [] (.op 1 [] (.op 2 [1, 0] (.op 3 [1, 0] (.op 4 [1, 0] (.op 5 [4, 3, 2, 1, 0] (.op 6 [4, 3, 2, 1, 0] (.op 7 [1, 0] (.op 8 [1, 0] (.op 9 [1, 0] (.op 10 [] (.op 11 [] .nil))))))))))))

/-- A relocation's kind; 0 where there is none. -/
def kindV (d : DescD) (r : Int) : Int := match at? d.rels r with | none => 0 | some x => x.kind
theorem kindV_in {d : DescD} {r : Int} (h : kindV d r ≠ 0) : 0 ≤ r ∧ r < d.rels.length := by
  unfold kindV at h
  by_cases hr : 0 ≤ r ∧ r < d.rels.length
  · exact hr
  · rw [at_none hr] at h; exact absurd rfl h

theorem kind_runs (d : DescD) (r : Int) : Runs Tryz.prog 68 [descT d, .int .i64 r] (.t (.int .i64 (kindV d r))) := by
  refine Runs.of_call ?_ rfl
  refine CallS.of_fn tabS_ok regS_ok Tryz.func68 rfl rfl ?_
  refine CallS.pure (among_runs _ _) rfl ?_
  refine br_intro (fun c => ?_) (fun c => ?_)
  · exact And.intro (fin_i (by rw [kindV, at_none (am0 (nb' c))])) rfl
  have h := am1 (nf c)
  obtain ⟨x, hx, _, hg⟩ := at_some h
  refine ck_intro (ix0 rfl h.1) ?_
  refine opt_intro (row_get hg) ?_
  exact And.intro (fin_i (by rw [kindV, hx])) rfl

theorem sane_runs (x : RelD) : RunsX Tryz.prog 108 [relT x] (YesS True) := by
  refine RunsX.of_call ?_ YesS.noRef
  refine CallS.of_fn tabS_ok regS_ok Tryz.func108 rfl rfl ?_
  refine br_intro (fun c1 => ?_) (fun _ => ?_)
  rotate_left 1
  · exact no_end
  refine br_intro (fun c2 => ?_) (fun _ => ?_)
  rotate_left 1
  · exact no_end
  refine br_intro (fun c3 => ?_) (fun c3 => ?_)
  · refine br_intro (fun e1 => ?_) (fun _ => ?_)
    rotate_left 1
    · exact no_end
    refine br_intro (fun e2 => ?_) (fun _ => ?_)
    rotate_left 1
    · exact no_end
    refine br_intro (fun e3 => ?_) (fun _ => ?_)
    rotate_left 1
    · exact no_end
    exact yes_end fun _ => trivial
  · refine br_intro (fun d1 => ?_) (fun _ => ?_)
    rotate_left 1
    · exact no_end
    refine br_intro (fun d2 => ?_) (fun _ => ?_)
    rotate_left 1
    · exact no_end
    refine br_intro (fun e1 => ?_) (fun _ => ?_)
    rotate_left 1
    · exact no_end
    refine br_intro (fun e2 => ?_) (fun _ => ?_)
    rotate_left 1
    · exact no_end
    refine br_intro (fun e3 => ?_) (fun _ => ?_)
    rotate_left 1
    · exact no_end
    exact yes_end fun _ => trivial

theorem calc_runs {t : T} (h : IsTerm t) : RunsX Tryz.prog 109 [t] (YesS True) := by
  induction h with
  | mk op w a b ks _ _ _ _ hl ht ih =>
  have hA : RunsX Tryz.prog 25 [.vecd 5 ks, .fn (.func 109) [] []] (YesS (∀ x ∈ ks, True)) :=
    all_Term_00 _ ks (fun _ => True) (maxLen_le hl) ht fun x hx => ih x hx
  refine RunsX.of_call ?_ YesS.noRef
  refine CallS.of_fn tabS_ok regS_ok Tryz.func109 rfl rfl ?_
  refine br_intro (fun c => ?_) (fun _ => ?_)
  · refine br_intro (fun _ => ?_) (fun c' => absurd (c.symm.trans c') (by decide))
    refine br_intro (fun e1 => ?_) (fun _ => ?_)
    rotate_left 1
    · exact no_end
    refine CallS.pureX hA rfl ?_
    rintro _ ⟨bA, rfl, pA⟩
    exact yes_end fun _ => trivial
  refine br_intro (fun c => ?_) (fun _ => ?_)
  · refine br_intro (fun e1 => ?_) (fun _ => ?_)
    rotate_left 1
    · exact no_end
    refine CallS.pureX hA rfl ?_
    rintro _ ⟨bA, rfl, pA⟩
    exact yes_end fun _ => trivial
  refine br_intro (fun c => ?_) (fun _ => ?_)
  · refine br_intro (fun e1 => ?_) (fun _ => ?_)
    rotate_left 1
    · exact no_end
    refine CallS.pureX hA rfl ?_
    rintro _ ⟨bA, rfl, pA⟩
    exact yes_end fun _ => trivial
  refine br_intro (fun c => ?_) (fun _ => ?_)
  · refine br_intro (fun _ => ?_) (fun c' => absurd (c.symm.trans c') (by decide))
    refine br_intro (fun e1 => ?_) (fun _ => ?_)
    rotate_left 1
    · exact no_end
    refine CallS.pureX hA rfl ?_
    rintro _ ⟨bA, rfl, pA⟩
    exact yes_end fun _ => trivial
  refine br_intro (fun c => ?_) (fun _ => ?_)
  · refine br_intro (fun _ => ?_) (fun c' => absurd (c.symm.trans c') (by decide))
    refine br_intro (fun e1 => ?_) (fun _ => ?_)
    rotate_left 1
    · exact no_end
    refine CallS.pureX hA rfl ?_
    rintro _ ⟨bA, rfl, pA⟩
    exact yes_end fun _ => trivial
  refine br_intro (fun c => ?_) (fun _ => ?_)
  · refine br_intro (fun _ => ?_) (fun c' => absurd (c.symm.trans c') (by decide))
    refine br_intro (fun e1 => ?_) (fun _ => ?_)
    rotate_left 1
    · exact no_end
    refine CallS.pureX hA rfl ?_
    rintro _ ⟨bA, rfl, pA⟩
    exact yes_end fun _ => trivial
  refine br_intro (fun c => ?_) (fun _ => ?_)
  · refine br_intro (fun _ => ?_) (fun c' => absurd (c.symm.trans c') (by decide))
    refine br_intro (fun e1 => ?_) (fun _ => ?_)
    rotate_left 1
    · exact no_end
    refine CallS.pureX hA rfl ?_
    rintro _ ⟨bA, rfl, pA⟩
    exact yes_end fun _ => trivial
  refine br_intro (fun c => ?_) (fun _ => ?_)
  · refine br_intro (fun _ => ?_) (fun c' => absurd (c.symm.trans c') (by decide))
    refine br_intro (fun e1 => ?_) (fun _ => ?_)
    rotate_left 1
    · exact no_end
    refine CallS.pureX hA rfl ?_
    rintro _ ⟨bA, rfl, pA⟩
    exact yes_end fun _ => trivial
  refine br_intro (fun c => ?_) (fun _ => ?_)
  · refine br_intro (fun _ => ?_) (fun c' => absurd (c.symm.trans c') (by decide))
    refine br_intro (fun e1 => ?_) (fun _ => ?_)
    rotate_left 1
    · exact no_end
    refine CallS.pureX hA rfl ?_
    rintro _ ⟨bA, rfl, pA⟩
    exact yes_end fun _ => trivial
  refine br_intro (fun c => ?_) (fun _ => ?_)
  · refine br_intro (fun e1 => ?_) (fun _ => ?_)
    rotate_left 1
    · exact no_end
    refine CallS.pureX hA rfl ?_
    rintro _ ⟨bA, rfl, pA⟩
    exact yes_end fun _ => trivial
  exact no_end

theorem rel_runs (d : DescD) (x : RelD) (hx : x.ok) : RunsX Tryz.prog 74 [descT d, relT x] (YesS True) := by
  have hS := sane_runs x
  have hC : RunsX Tryz.prog 109 [.agg [.int .i64 x.calcOp, .int .i64 x.calcW, .int .i64 x.calcA, .int .i64 x.calcB, .vecd 5 x.calcKids]] (YesS True) := calc_runs hx.2.2.2.2.2.2.1
  refine RunsX.of_call ?_ YesS.noRef
  refine CallS.of_fn tabS_ok regS_ok Tryz.func74 rfl rfl ?_
  refine br_intro (fun c => ?_) (fun _ => ?_)
  · refine br_intro (fun v1 => ?_) (fun _ => ?_)
    rotate_left 1
    · exact no_end
    refine CallS.frzX hS rfl ⟨.refl _, trivial⟩ ?_
    rintro _ ⟨bS, rfl, pS⟩
    exact yes_end fun _ => trivial
  refine br_intro (fun c => ?_) (fun _ => ?_)
  · refine br_intro (fun _ => ?_) (fun v1 => ?_)
    · exact no_end
    refine br_intro (fun _ => ?_) (fun v2 => ?_)
    · exact no_end
    refine br_intro (fun u1 => ?_) (fun _ => ?_)
    rotate_left 1
    · exact no_end
    refine CallS.frzX hS rfl ⟨.refl _, trivial⟩ ?_
    rintro _ ⟨bS, rfl, pS⟩
    refine br_intro (fun u2 => ?_) (fun _ => ?_)
    rotate_left 1
    · exact no_end
    refine CallS.frzX hC rfl ⟨.refl _, trivial⟩ ?_
    rintro _ ⟨bC, rfl, pC⟩
    exact yes_end fun _ => trivial
  refine br_intro (fun c => ?_) (fun _ => ?_)
  · refine draw_introS ord_66_10 (by decide +kernel) ?_
    refine br_intro (fun h1 => ?_) (fun _ => ?_)
    rotate_left 1
    · refine And.intro (fun j hj => by first | (cases hj; done) | exact LeX.append _ _ _ | exact LeX.refl _ _) ?_
      refine And.intro (fun j hj => by first | (cases hj; done) | exact LeX.append _ _ _ | exact LeX.refl _ _) ?_
      exact no_end
    have h1 : 0 ≤ x.hi := by simpa using h1
    refine br_intro (fun h2 => ?_) (fun _ => ?_)
    rotate_left 1
    · refine And.intro (fun j hj => by first | (cases hj; done) | exact LeX.append _ _ _ | exact LeX.refl _ _) ?_
      refine And.intro (fun j hj => by first | (cases hj; done) | exact LeX.append _ _ _ | exact LeX.refl _ _) ?_
      exact no_end
    have h2 : x.hi ≤ 63 := by simpa using h2
    refine br_intro (fun h3 => ?_) (fun _ => ?_)
    rotate_left 1
    · refine And.intro (fun j hj => by first | (cases hj; done) | exact LeX.append _ _ _ | exact LeX.refl _ _) ?_
      refine And.intro (fun j hj => by first | (cases hj; done) | exact LeX.append _ _ _ | exact LeX.refl _ _) ?_
      exact no_end
    have h3 : 0 ≤ x.lo := by simpa using h3
    refine br_intro (fun h4 => ?_) (fun _ => ?_)
    rotate_left 1
    · refine And.intro (fun j hj => by first | (cases hj; done) | exact LeX.append _ _ _ | exact LeX.refl _ _) ?_
      refine And.intro (fun j hj => by first | (cases hj; done) | exact LeX.append _ _ _ | exact LeX.refl _ _) ?_
      exact no_end
    have h4 : x.lo ≤ x.hi := by simpa using h4
    refine CallS.pure (among_runs _ _) rfl ?_
    refine And.intro (fun j hj => by first | (cases hj; done) | exact LeX.append _ _ _ | exact LeX.refl _ _) ?_
    refine br_intro (fun h5 => ?_) (fun _ => ?_)
    rotate_left 1
    · refine And.intro (fun j hj => by first | (cases hj; done) | exact LeX.append _ _ _ | exact LeX.refl _ _) ?_
      exact no_end
    have h5 := am1 (show decide _ = true from h5)
    obtain ⟨k, _, _, hk⟩ := at_some h5
    refine st_intro (n := x.hi - x.lo) (i64_int (by omega) (by omega)) ?_
    refine st_intro (n := x.hi - x.lo + 1) (i64_int (by omega) (by omega)) ?_
    refine ck_intro (ix0 rfl h5.1) ?_
    refine opt_intro (row_get hk) ?_
    refine And.intro (fun j hj => by first | (cases hj; done) | exact LeX.append _ _ _ | exact LeX.refl _ _) ?_
    refine br_intro (fun u1 => ?_) (fun _ => ?_)
    rotate_left 1
    · exact no_end
    refine CallS.frzX hS rfl ⟨.refl _, trivial⟩ ?_
    rintro _ ⟨bS, rfl, pS⟩
    refine br_intro (fun u2 => ?_) (fun _ => ?_)
    rotate_left 1
    · exact no_end
    refine CallS.frzX hC rfl ⟨.refl _, trivial⟩ ?_
    rintro _ ⟨bC, rfl, pC⟩
    exact yes_end fun _ => trivial
  refine br_intro (fun c => ?_) (fun _ => ?_)
  · refine CallS.pure (among_runs _ _) rfl ?_
    refine br_intro (fun _ => ?_) (fun w1 => ?_)
    · exact no_end
    have w1 := am1 (nf w1)
    obtain ⟨k1, _, _, hk1⟩ := at_some w1
    refine CallS.pure (among_runs _ _) rfl ?_
    refine br_intro (fun _ => ?_) (fun w2 => ?_)
    · exact no_end
    have w2 := am1 (nf (show (!decide _) = false from w2))
    obtain ⟨k2, _, _, hk2⟩ := at_some w2
    refine ck_intro (ix0 rfl w1.1) ?_
    refine opt_intro (row_get hk1) ?_
    refine br_intro (fun _ => ?_) (fun w3 => ?_)
    · exact no_end
    refine ck_intro (ix0 rfl w2.1) ?_
    refine opt_intro (row_get hk2) ?_
    refine br_intro (fun _ => ?_) (fun w4 => ?_)
    · exact no_end
    refine br_intro (fun u1 => ?_) (fun _ => ?_)
    rotate_left 1
    · exact no_end
    refine CallS.frzX hS rfl ⟨.refl _, trivial⟩ ?_
    rintro _ ⟨bS, rfl, pS⟩
    refine br_intro (fun u2 => ?_) (fun _ => ?_)
    rotate_left 1
    · exact no_end
    refine CallS.frzX hC rfl ⟨.refl _, trivial⟩ ?_
    rintro _ ⟨bC, rfl, pC⟩
    exact yes_end fun _ => trivial
  exact no_end

end Go.Proofs.YtnjmeadmkbkikaaGreatDoor
