/-
  Widths of terms: the document's walk.
-/
import Derived.Test.YthccmdcanjihkaaGreatDoorWe
namespace Go.Proofs.YthccmdcanjihkaaGreatDoor
open Go.IntWalk
set_option maxRecDepth 100000
set_option linter.unusedVariables false
set_option linter.unusedSimpArgs false
set_option maxHeartbeats 4000000

theorem widthR0_no (d : DescD) (f : FormD) (op w a b : Int) (hk : kidsN op ≠ 0)  :
    Runs Tryz.prog 10 [descT d, formT f, .agg [.int .i64 op, .int .i64 w, .int .i64 a, .int .i64 b, .vecd 5 []]] (.t (.int .i64 0)) := by
  have e20 : (op == 20) = false := by
    have : op ≠ 20 := fun h => hk (by rw [h]; rfl)
    simpa using this
  have e21 : (op == 21) = false := by
    have : op ≠ 21 := fun h => hk (by rw [h]; rfl)
    simpa using this
  have e22 : (op == 22) = false := by
    have : op ≠ 22 := fun h => hk (by rw [h]; rfl)
    simpa using this
  have e23 : (op == 23) = false := by
    have : op ≠ 23 := fun h => hk (by rw [h]; rfl)
    simpa using this
  have e24 : (op == 24) = false := by
    have : op ≠ 24 := fun h => hk (by rw [h]; rfl)
    simpa using this
  have e25 : (op == 25) = false := by
    have : op ≠ 25 := fun h => hk (by rw [h]; rfl)
    simpa using this
  refine Runs.of_call ?_ rfl
  refine CallS.of_fn tabS_ok regS_ok Tryz.func10 rfl rfl ?_
  refine loop_un 1 ?_
  refine draw_introS ord_10_12 (by decide +kernel) ?_
  refine And.intro (fun j hj => by first | (cases hj; done) | exact LeX.append _ _ _) ?_
  refine And.intro (fun j hj => by first | (cases hj; done) | exact LeX.append _ _ _) ?_
  refine br_intro (fun c => ?_) (fun c1 => ?_)
  · refine br_intro (fun _ => ?_) (fun c' => absurd (c.symm.trans c') (by decide))
    exact And.intro rfl rfl
  refine br_intro (fun c => ?_) (fun c2 => ?_)
  · refine br_intro (fun _ => ?_) (fun c' => absurd (c.symm.trans c') (by decide))
    exact And.intro rfl rfl
  refine br_intro (fun c => ?_) (fun c3 => ?_)
  · refine br_intro (fun _ => ?_) (fun c' => absurd (c.symm.trans c') (by decide))
    exact And.intro rfl rfl
  refine br_intro (fun c => ?_) (fun c4 => ?_)
  · refine br_intro (fun _ => ?_) (fun c' => absurd (c.symm.trans c') (by decide))
    exact And.intro rfl rfl
  refine br_intro (fun c => ?_) (fun c5 => ?_)
  · refine br_intro (fun _ => ?_) (fun c' => absurd (c.symm.trans c') (by decide))
    exact And.intro rfl rfl
  refine br_intro (fun c => ?_) (fun c6 => ?_)
  · refine br_intro (fun _ => ?_) (fun c' => absurd (c.symm.trans c') (by decide))
    exact And.intro rfl rfl
  refine br_intro (fun c => ?_) (fun c10 => ?_)
  · refine br_intro (fun _ => ?_) (fun c' => absurd (c.symm.trans c') (by decide))
    exact And.intro rfl rfl
  refine br_intro (fun c => ?_) (fun c11 => ?_)
  · refine br_intro (fun _ => ?_) (fun c' => absurd (c.symm.trans c') (by decide))
    exact And.intro rfl rfl
  refine br_intro (fun c => ?_) (fun c12 => ?_)
  · refine br_intro (fun _ => ?_) (fun c' => absurd (c.symm.trans c') (by decide))
    exact And.intro rfl rfl
  refine br_intro (fun c => ?_) (fun c13 => ?_)
  · exact And.intro rfl rfl
  refine br_intro (fun c => ?_) (fun c7 => ?_)
  · refine br_intro (fun _ => ?_) (fun c' => absurd (c.symm.trans c') (by decide))
    exact And.intro rfl rfl
  refine br_intro (fun c => ?_) (fun c8 => ?_)
  · refine br_intro (fun _ => ?_) (fun c' => absurd (c.symm.trans c') (by decide))
    exact And.intro rfl rfl
  refine br_intro (fun c => ?_) (fun c9 => ?_)
  · exact And.intro rfl rfl
  refine br_intro (fun c => ?_) (fun c14 => ?_)
  · refine br_intro (fun _ => ?_) (fun c' => absurd (c.symm.trans c') (by decide))
    exact And.intro rfl rfl
  refine br_intro (fun c => ?_) (fun c15 => ?_)
  · refine br_intro (fun _ => ?_) (fun c' => absurd (c.symm.trans c') (by decide))
    exact And.intro rfl rfl
  refine br_intro (fun c => ?_) (fun c16 => ?_)
  · exact And.intro rfl rfl
  refine br_intro (fun c => ?_) (fun c17 => ?_)
  · exact And.intro rfl rfl
  refine br_intro (fun c => ?_) (fun c18 => ?_)
  · refine br_intro (fun _ => ?_) (fun c' => absurd (c.symm.trans c') (by decide))
    exact And.intro rfl rfl
  refine br_intro (fun c => ?_) (fun c19 => ?_)
  · exact And.intro rfl rfl
  refine br_intro (fun c => absurd (e20.symm.trans c) (by decide)) (fun c20 => ?_)
  refine br_intro (fun c => absurd (e21.symm.trans c) (by decide)) (fun c21 => ?_)
  refine br_intro (fun c => absurd (e22.symm.trans c) (by decide)) (fun c22 => ?_)
  refine br_intro (fun c => absurd (e23.symm.trans c) (by decide)) (fun c23 => ?_)
  refine br_intro (fun c => absurd (e24.symm.trans c) (by decide)) (fun c24 => ?_)
  refine br_intro (fun c => absurd (e25.symm.trans c) (by decide)) (fun c25 => ?_)
  refine br_intro (fun c => ?_) (fun c26 => ?_)
  · exact And.intro rfl rfl
  refine br_intro (fun c => ?_) (fun c27 => ?_)
  · exact And.intro rfl rfl
  refine br_intro (fun c => ?_) (fun c28 => ?_)
  · refine br_intro (fun _ => ?_) (fun c' => absurd (c.symm.trans c') (by decide))
    exact And.intro rfl rfl
  refine br_intro (fun c => ?_) (fun c29 => ?_)
  · exact And.intro rfl rfl
  refine br_intro (fun c => ?_) (fun c30 => ?_)
  · exact And.intro rfl rfl
  exact And.intro rfl rfl

theorem widthR1_no (d : DescD) (f : FormD) (op w a b : Int) (hk : kidsN op ≠ 1) {k0 : T} {x : Int} (hk0 : IsTerm k0) (hx0 : 0 ≤ x ∧ x ≤ 128)
    (hr0 : Runs Tryz.prog 10 [descT d, formT f, k0] (.t (.int .i64 x))) :
    Runs Tryz.prog 10 [descT d, formT f, .agg [.int .i64 op, .int .i64 w, .int .i64 a, .int .i64 b, .vecd 5 [k0]]] (.t (.int .i64 0)) := by
  cases hk0 with | mk o0 w0 a0 b0 s0 _ _ _ _ _ _ =>
  have e18 : (op == 18) = false := by
    have : op ≠ 18 := fun h => hk (by rw [h]; rfl)
    simpa using this
  have e19 : (op == 19) = false := by
    have : op ≠ 19 := fun h => hk (by rw [h]; rfl)
    simpa using this
  have e26 : (op == 26) = false := by
    have : op ≠ 26 := fun h => hk (by rw [h]; rfl)
    simpa using this
  have e28 : (op == 28) = false := by
    have : op ≠ 28 := fun h => hk (by rw [h]; rfl)
    simpa using this
  have e29 : (op == 29) = false := by
    have : op ≠ 29 := fun h => hk (by rw [h]; rfl)
    simpa using this
  have e30 : (op == 30) = false := by
    have : op ≠ 30 := fun h => hk (by rw [h]; rfl)
    simpa using this
  refine Runs.of_call ?_ rfl
  refine CallS.of_fn tabS_ok regS_ok Tryz.func10 rfl rfl ?_
  refine loop_un 2 ?_
  refine CallS.frzG hr0 rfl ⟨.refl _, .refl _, .refl _, trivial⟩ ?_
  refine br_intro (fun c => ?_) (fun c0 => ?_)
  · have c : x = 0 := by simpa using c
    exact And.intro rfl rfl
  have c0 : ¬ x = 0 := by simpa using c0
  refine draw_introS ord_10_12 (by decide +kernel) ?_
  refine And.intro (fun j hj => by first | (cases hj; done) | exact LeX.append _ _ _) ?_
  refine And.intro (fun j hj => by first | (cases hj; done) | exact LeX.append _ _ _) ?_
  refine br_intro (fun c => ?_) (fun c1 => ?_)
  · refine br_intro (fun _ => ?_) (fun c' => absurd (c.symm.trans c') (by decide))
    exact And.intro rfl rfl
  refine br_intro (fun c => ?_) (fun c2 => ?_)
  · refine br_intro (fun _ => ?_) (fun c' => absurd (c.symm.trans c') (by decide))
    exact And.intro rfl rfl
  refine br_intro (fun c => ?_) (fun c3 => ?_)
  · refine br_intro (fun _ => ?_) (fun c' => absurd (c.symm.trans c') (by decide))
    exact And.intro rfl rfl
  refine br_intro (fun c => ?_) (fun c4 => ?_)
  · refine br_intro (fun _ => ?_) (fun c' => absurd (c.symm.trans c') (by decide))
    exact And.intro rfl rfl
  refine br_intro (fun c => ?_) (fun c5 => ?_)
  · refine br_intro (fun _ => ?_) (fun c' => absurd (c.symm.trans c') (by decide))
    exact And.intro rfl rfl
  refine br_intro (fun c => ?_) (fun c6 => ?_)
  · refine br_intro (fun _ => ?_) (fun c' => absurd (c.symm.trans c') (by decide))
    exact And.intro rfl rfl
  refine br_intro (fun c => ?_) (fun c10 => ?_)
  · refine br_intro (fun _ => ?_) (fun c' => absurd (c.symm.trans c') (by decide))
    exact And.intro rfl rfl
  refine br_intro (fun c => ?_) (fun c11 => ?_)
  · refine br_intro (fun _ => ?_) (fun c' => absurd (c.symm.trans c') (by decide))
    exact And.intro rfl rfl
  refine br_intro (fun c => ?_) (fun c12 => ?_)
  · refine br_intro (fun _ => ?_) (fun c' => absurd (c.symm.trans c') (by decide))
    exact And.intro rfl rfl
  refine br_intro (fun c => ?_) (fun c13 => ?_)
  · exact And.intro rfl rfl
  refine br_intro (fun c => ?_) (fun c7 => ?_)
  · refine br_intro (fun _ => ?_) (fun c' => absurd (c.symm.trans c') (by decide))
    exact And.intro rfl rfl
  refine br_intro (fun c => ?_) (fun c8 => ?_)
  · refine br_intro (fun _ => ?_) (fun c' => absurd (c.symm.trans c') (by decide))
    exact And.intro rfl rfl
  refine br_intro (fun c => ?_) (fun c9 => ?_)
  · exact And.intro rfl rfl
  refine br_intro (fun c => ?_) (fun c14 => ?_)
  · refine br_intro (fun _ => ?_) (fun c' => absurd (c.symm.trans c') (by decide))
    exact And.intro rfl rfl
  refine br_intro (fun c => ?_) (fun c15 => ?_)
  · refine br_intro (fun _ => ?_) (fun c' => absurd (c.symm.trans c') (by decide))
    exact And.intro rfl rfl
  refine br_intro (fun c => ?_) (fun c16 => ?_)
  · exact And.intro rfl rfl
  refine br_intro (fun c => ?_) (fun c17 => ?_)
  · exact And.intro rfl rfl
  refine br_intro (fun c => absurd (e18.symm.trans c) (by decide)) (fun c18 => ?_)
  refine br_intro (fun c => absurd (e19.symm.trans c) (by decide)) (fun c19 => ?_)
  refine br_intro (fun c => ?_) (fun c20 => ?_)
  · exact And.intro rfl rfl
  refine br_intro (fun c => ?_) (fun c21 => ?_)
  · exact And.intro rfl rfl
  refine br_intro (fun c => ?_) (fun c22 => ?_)
  · refine draw_introS ord_10_51 (by decide +kernel) ?_
    refine And.intro (fun j hj => by first | (cases hj; done) | exact LeX.append _ _ _) ?_
    refine And.intro (fun j hj => by first | (cases hj; done) | exact LeX.append _ _ _) ?_
    refine And.intro (fun j hj => by first | (cases hj; done) | exact LeX.append _ _ _) ?_
    exact And.intro rfl rfl
  refine br_intro (fun c => ?_) (fun c23 => ?_)
  · refine br_intro (fun _ => ?_) (fun c' => absurd (c.symm.trans c') (by decide))
    exact And.intro rfl rfl
  refine br_intro (fun c => ?_) (fun c24 => ?_)
  · exact And.intro rfl rfl
  refine br_intro (fun c => ?_) (fun c25 => ?_)
  · exact And.intro rfl rfl
  refine br_intro (fun c => absurd (e26.symm.trans c) (by decide)) (fun c26 => ?_)
  refine br_intro (fun c => ?_) (fun c27 => ?_)
  · exact And.intro rfl rfl
  refine br_intro (fun c => absurd (e28.symm.trans c) (by decide)) (fun c28 => ?_)
  refine br_intro (fun c => absurd (e29.symm.trans c) (by decide)) (fun c29 => ?_)
  refine br_intro (fun c => absurd (e30.symm.trans c) (by decide)) (fun c30 => ?_)
  exact And.intro rfl rfl

theorem widthR2_no (d : DescD) (f : FormD) (op w a b : Int) (hk : kidsN op ≠ 2) {k0 : T} {x : Int} (hk0 : IsTerm k0) (hx0 : 0 ≤ x ∧ x ≤ 128)
    (hr0 : Runs Tryz.prog 10 [descT d, formT f, k0] (.t (.int .i64 x))) {k1 : T} {y : Int} (hk1 : IsTerm k1) (hx1 : 0 ≤ y ∧ y ≤ 128)
    (hr1 : Runs Tryz.prog 10 [descT d, formT f, k1] (.t (.int .i64 y))) :
    Runs Tryz.prog 10 [descT d, formT f, .agg [.int .i64 op, .int .i64 w, .int .i64 a, .int .i64 b, .vecd 5 [k0, k1]]] (.t (.int .i64 0)) := by
  cases hk0 with | mk o0 w0 a0 b0 s0 _ _ _ _ _ _ =>
  cases hk1 with | mk o1 w1 a1 b1 s1 _ _ _ _ _ _ =>
  have e1 : (op == 1) = false := by
    have : op ≠ 1 := fun h => hk (by rw [h]; rfl)
    simpa using this
  have e2 : (op == 2) = false := by
    have : op ≠ 2 := fun h => hk (by rw [h]; rfl)
    simpa using this
  have e3 : (op == 3) = false := by
    have : op ≠ 3 := fun h => hk (by rw [h]; rfl)
    simpa using this
  have e4 : (op == 4) = false := by
    have : op ≠ 4 := fun h => hk (by rw [h]; rfl)
    simpa using this
  have e5 : (op == 5) = false := by
    have : op ≠ 5 := fun h => hk (by rw [h]; rfl)
    simpa using this
  have e6 : (op == 6) = false := by
    have : op ≠ 6 := fun h => hk (by rw [h]; rfl)
    simpa using this
  have e10 : (op == 10) = false := by
    have : op ≠ 10 := fun h => hk (by rw [h]; rfl)
    simpa using this
  have e11 : (op == 11) = false := by
    have : op ≠ 11 := fun h => hk (by rw [h]; rfl)
    simpa using this
  have e12 : (op == 12) = false := by
    have : op ≠ 12 := fun h => hk (by rw [h]; rfl)
    simpa using this
  have e13 : (op == 13) = false := by
    have : op ≠ 13 := fun h => hk (by rw [h]; rfl)
    simpa using this
  have e7 : (op == 7) = false := by
    have : op ≠ 7 := fun h => hk (by rw [h]; rfl)
    simpa using this
  have e8 : (op == 8) = false := by
    have : op ≠ 8 := fun h => hk (by rw [h]; rfl)
    simpa using this
  have e9 : (op == 9) = false := by
    have : op ≠ 9 := fun h => hk (by rw [h]; rfl)
    simpa using this
  have e14 : (op == 14) = false := by
    have : op ≠ 14 := fun h => hk (by rw [h]; rfl)
    simpa using this
  have e15 : (op == 15) = false := by
    have : op ≠ 15 := fun h => hk (by rw [h]; rfl)
    simpa using this
  have e16 : (op == 16) = false := by
    have : op ≠ 16 := fun h => hk (by rw [h]; rfl)
    simpa using this
  have e17 : (op == 17) = false := by
    have : op ≠ 17 := fun h => hk (by rw [h]; rfl)
    simpa using this
  refine Runs.of_call ?_ rfl
  refine CallS.of_fn tabS_ok regS_ok Tryz.func10 rfl rfl ?_
  refine loop_un 3 ?_
  refine CallS.frzG hr0 rfl ⟨.refl _, .refl _, .refl _, trivial⟩ ?_
  refine br_intro (fun c => ?_) (fun c0 => ?_)
  · have c : x = 0 := by simpa using c
    exact And.intro rfl rfl
  have c0 : ¬ x = 0 := by simpa using c0
  refine CallS.frzG hr1 rfl ⟨.refl _, .refl _, .refl _, trivial⟩ ?_
  refine br_intro (fun c => ?_) (fun c1 => ?_)
  · have c : y = 0 := by simpa using c
    exact And.intro rfl rfl
  have c1 : ¬ y = 0 := by simpa using c1
  refine draw_introS ord_10_12 (by decide +kernel) ?_
  refine And.intro (fun j hj => by first | (cases hj; done) | exact LeX.append _ _ _) ?_
  refine And.intro (fun j hj => by first | (cases hj; done) | exact LeX.append _ _ _) ?_
  refine br_intro (fun c => absurd (e1.symm.trans c) (by decide)) (fun c1 => ?_)
  refine br_intro (fun c => absurd (e2.symm.trans c) (by decide)) (fun c2 => ?_)
  refine br_intro (fun c => absurd (e3.symm.trans c) (by decide)) (fun c3 => ?_)
  refine br_intro (fun c => absurd (e4.symm.trans c) (by decide)) (fun c4 => ?_)
  refine br_intro (fun c => absurd (e5.symm.trans c) (by decide)) (fun c5 => ?_)
  refine br_intro (fun c => absurd (e6.symm.trans c) (by decide)) (fun c6 => ?_)
  refine br_intro (fun c => absurd (e10.symm.trans c) (by decide)) (fun c10 => ?_)
  refine br_intro (fun c => absurd (e11.symm.trans c) (by decide)) (fun c11 => ?_)
  refine br_intro (fun c => absurd (e12.symm.trans c) (by decide)) (fun c12 => ?_)
  refine br_intro (fun c => absurd (e13.symm.trans c) (by decide)) (fun c13 => ?_)
  refine br_intro (fun c => absurd (e7.symm.trans c) (by decide)) (fun c7 => ?_)
  refine br_intro (fun c => absurd (e8.symm.trans c) (by decide)) (fun c8 => ?_)
  refine br_intro (fun c => absurd (e9.symm.trans c) (by decide)) (fun c9 => ?_)
  refine br_intro (fun c => absurd (e14.symm.trans c) (by decide)) (fun c14 => ?_)
  refine br_intro (fun c => absurd (e15.symm.trans c) (by decide)) (fun c15 => ?_)
  refine br_intro (fun c => absurd (e16.symm.trans c) (by decide)) (fun c16 => ?_)
  refine br_intro (fun c => absurd (e17.symm.trans c) (by decide)) (fun c17 => ?_)
  refine br_intro (fun c => ?_) (fun c18 => ?_)
  · refine br_intro (fun _ => ?_) (fun c' => absurd (c.symm.trans c') (by decide))
    exact And.intro rfl rfl
  refine br_intro (fun c => ?_) (fun c19 => ?_)
  · exact And.intro rfl rfl
  refine br_intro (fun c => ?_) (fun c20 => ?_)
  · exact And.intro rfl rfl
  refine br_intro (fun c => ?_) (fun c21 => ?_)
  · exact And.intro rfl rfl
  refine br_intro (fun c => ?_) (fun c22 => ?_)
  · refine draw_introS ord_10_51 (by decide +kernel) ?_
    refine And.intro (fun j hj => by first | (cases hj; done) | exact LeX.append _ _ _) ?_
    refine And.intro (fun j hj => by first | (cases hj; done) | exact LeX.append _ _ _) ?_
    refine And.intro (fun j hj => by first | (cases hj; done) | exact LeX.append _ _ _) ?_
    exact And.intro rfl rfl
  refine br_intro (fun c => ?_) (fun c23 => ?_)
  · refine br_intro (fun _ => ?_) (fun c' => absurd (c.symm.trans c') (by decide))
    exact And.intro rfl rfl
  refine br_intro (fun c => ?_) (fun c24 => ?_)
  · exact And.intro rfl rfl
  refine br_intro (fun c => ?_) (fun c25 => ?_)
  · exact And.intro rfl rfl
  refine br_intro (fun c => ?_) (fun c26 => ?_)
  · exact And.intro rfl rfl
  refine br_intro (fun c => ?_) (fun c27 => ?_)
  · exact And.intro rfl rfl
  refine br_intro (fun c => ?_) (fun c28 => ?_)
  · refine br_intro (fun _ => ?_) (fun c' => absurd (c.symm.trans c') (by decide))
    exact And.intro rfl rfl
  refine br_intro (fun c => ?_) (fun c29 => ?_)
  · exact And.intro rfl rfl
  refine br_intro (fun c => ?_) (fun c30 => ?_)
  · exact And.intro rfl rfl
  exact And.intro rfl rfl

theorem widthR3_no (d : DescD) (f : FormD) (op w a b : Int) (hk : kidsN op ≠ 3) {k0 : T} {x : Int} (hk0 : IsTerm k0) (hx0 : 0 ≤ x ∧ x ≤ 128)
    (hr0 : Runs Tryz.prog 10 [descT d, formT f, k0] (.t (.int .i64 x))) {k1 : T} {y : Int} (hk1 : IsTerm k1) (hx1 : 0 ≤ y ∧ y ≤ 128)
    (hr1 : Runs Tryz.prog 10 [descT d, formT f, k1] (.t (.int .i64 y))) {k2 : T} {z : Int} (hk2 : IsTerm k2) (hx2 : 0 ≤ z ∧ z ≤ 128)
    (hr2 : Runs Tryz.prog 10 [descT d, formT f, k2] (.t (.int .i64 z))) :
    Runs Tryz.prog 10 [descT d, formT f, .agg [.int .i64 op, .int .i64 w, .int .i64 a, .int .i64 b, .vecd 5 [k0, k1, k2]]] (.t (.int .i64 0)) := by
  cases hk0 with | mk o0 w0 a0 b0 s0 _ _ _ _ _ _ =>
  cases hk1 with | mk o1 w1 a1 b1 s1 _ _ _ _ _ _ =>
  cases hk2 with | mk o2 w2 a2 b2 s2 _ _ _ _ _ _ =>
  have e27 : (op == 27) = false := by
    have : op ≠ 27 := fun h => hk (by rw [h]; rfl)
    simpa using this
  refine Runs.of_call ?_ rfl
  refine CallS.of_fn tabS_ok regS_ok Tryz.func10 rfl rfl ?_
  refine loop_un 4 ?_
  refine CallS.frzG hr0 rfl ⟨.refl _, .refl _, .refl _, trivial⟩ ?_
  refine br_intro (fun c => ?_) (fun c0 => ?_)
  · have c : x = 0 := by simpa using c
    exact And.intro rfl rfl
  have c0 : ¬ x = 0 := by simpa using c0
  refine CallS.frzG hr1 rfl ⟨.refl _, .refl _, .refl _, trivial⟩ ?_
  refine br_intro (fun c => ?_) (fun c1 => ?_)
  · have c : y = 0 := by simpa using c
    exact And.intro rfl rfl
  have c1 : ¬ y = 0 := by simpa using c1
  refine CallS.frzG hr2 rfl ⟨.refl _, .refl _, .refl _, trivial⟩ ?_
  refine br_intro (fun c => ?_) (fun c2 => ?_)
  · have c : z = 0 := by simpa using c
    exact And.intro rfl rfl
  have c2 : ¬ z = 0 := by simpa using c2
  refine draw_introS ord_10_12 (by decide +kernel) ?_
  refine And.intro (fun j hj => by first | (cases hj; done) | exact LeX.append _ _ _) ?_
  refine And.intro (fun j hj => by first | (cases hj; done) | exact LeX.append _ _ _) ?_
  refine br_intro (fun c => ?_) (fun c1 => ?_)
  · refine br_intro (fun _ => ?_) (fun c' => absurd (c.symm.trans c') (by decide))
    exact And.intro rfl rfl
  refine br_intro (fun c => ?_) (fun c2 => ?_)
  · refine br_intro (fun _ => ?_) (fun c' => absurd (c.symm.trans c') (by decide))
    exact And.intro rfl rfl
  refine br_intro (fun c => ?_) (fun c3 => ?_)
  · refine br_intro (fun _ => ?_) (fun c' => absurd (c.symm.trans c') (by decide))
    exact And.intro rfl rfl
  refine br_intro (fun c => ?_) (fun c4 => ?_)
  · refine br_intro (fun _ => ?_) (fun c' => absurd (c.symm.trans c') (by decide))
    exact And.intro rfl rfl
  refine br_intro (fun c => ?_) (fun c5 => ?_)
  · refine br_intro (fun _ => ?_) (fun c' => absurd (c.symm.trans c') (by decide))
    exact And.intro rfl rfl
  refine br_intro (fun c => ?_) (fun c6 => ?_)
  · refine br_intro (fun _ => ?_) (fun c' => absurd (c.symm.trans c') (by decide))
    exact And.intro rfl rfl
  refine br_intro (fun c => ?_) (fun c10 => ?_)
  · refine br_intro (fun _ => ?_) (fun c' => absurd (c.symm.trans c') (by decide))
    exact And.intro rfl rfl
  refine br_intro (fun c => ?_) (fun c11 => ?_)
  · refine br_intro (fun _ => ?_) (fun c' => absurd (c.symm.trans c') (by decide))
    exact And.intro rfl rfl
  refine br_intro (fun c => ?_) (fun c12 => ?_)
  · refine br_intro (fun _ => ?_) (fun c' => absurd (c.symm.trans c') (by decide))
    exact And.intro rfl rfl
  refine br_intro (fun c => ?_) (fun c13 => ?_)
  · exact And.intro rfl rfl
  refine br_intro (fun c => ?_) (fun c7 => ?_)
  · refine br_intro (fun _ => ?_) (fun c' => absurd (c.symm.trans c') (by decide))
    exact And.intro rfl rfl
  refine br_intro (fun c => ?_) (fun c8 => ?_)
  · refine br_intro (fun _ => ?_) (fun c' => absurd (c.symm.trans c') (by decide))
    exact And.intro rfl rfl
  refine br_intro (fun c => ?_) (fun c9 => ?_)
  · exact And.intro rfl rfl
  refine br_intro (fun c => ?_) (fun c14 => ?_)
  · refine br_intro (fun _ => ?_) (fun c' => absurd (c.symm.trans c') (by decide))
    exact And.intro rfl rfl
  refine br_intro (fun c => ?_) (fun c15 => ?_)
  · refine br_intro (fun _ => ?_) (fun c' => absurd (c.symm.trans c') (by decide))
    exact And.intro rfl rfl
  refine br_intro (fun c => ?_) (fun c16 => ?_)
  · exact And.intro rfl rfl
  refine br_intro (fun c => ?_) (fun c17 => ?_)
  · exact And.intro rfl rfl
  refine br_intro (fun c => ?_) (fun c18 => ?_)
  · refine br_intro (fun _ => ?_) (fun c' => absurd (c.symm.trans c') (by decide))
    exact And.intro rfl rfl
  refine br_intro (fun c => ?_) (fun c19 => ?_)
  · exact And.intro rfl rfl
  refine br_intro (fun c => ?_) (fun c20 => ?_)
  · exact And.intro rfl rfl
  refine br_intro (fun c => ?_) (fun c21 => ?_)
  · exact And.intro rfl rfl
  refine br_intro (fun c => ?_) (fun c22 => ?_)
  · refine draw_introS ord_10_51 (by decide +kernel) ?_
    refine And.intro (fun j hj => by first | (cases hj; done) | exact LeX.append _ _ _) ?_
    refine And.intro (fun j hj => by first | (cases hj; done) | exact LeX.append _ _ _) ?_
    refine And.intro (fun j hj => by first | (cases hj; done) | exact LeX.append _ _ _) ?_
    exact And.intro rfl rfl
  refine br_intro (fun c => ?_) (fun c23 => ?_)
  · refine br_intro (fun _ => ?_) (fun c' => absurd (c.symm.trans c') (by decide))
    exact And.intro rfl rfl
  refine br_intro (fun c => ?_) (fun c24 => ?_)
  · exact And.intro rfl rfl
  refine br_intro (fun c => ?_) (fun c25 => ?_)
  · exact And.intro rfl rfl
  refine br_intro (fun c => ?_) (fun c26 => ?_)
  · exact And.intro rfl rfl
  refine br_intro (fun c => absurd (e27.symm.trans c) (by decide)) (fun c27 => ?_)
  refine br_intro (fun c => ?_) (fun c28 => ?_)
  · refine br_intro (fun _ => ?_) (fun c' => absurd (c.symm.trans c') (by decide))
    exact And.intro rfl rfl
  refine br_intro (fun c => ?_) (fun c29 => ?_)
  · exact And.intro rfl rfl
  refine br_intro (fun c => ?_) (fun c30 => ?_)
  · exact And.intro rfl rfl
  exact And.intro rfl rfl

theorem widthR0_20 (d : DescD) (f : FormD) (w a b : Int) (ha : I64 a) (hb : I64 b)  :
    Runs Tryz.prog 10 [descT d, formT f, .agg [.int .i64 20, .int .i64 w, .int .i64 a, .int .i64 b, .vecd 5 []]] (.t (.int .i64 (wid0 d f 20 w a b))) := by
  have e : wid0 d f 20 w a b = if wideP w then w else 0 := rfl
  rw [e]
  refine Runs.of_call ?_ rfl
  refine CallS.of_fn tabS_ok regS_ok Tryz.func10 rfl rfl ?_
  refine loop_un 1 ?_
  refine draw_introS ord_10_12 (by decide +kernel) ?_
  refine And.intro (fun j hj => by first | (cases hj; done) | exact LeX.append _ _ _) ?_
  refine And.intro (fun j hj => by first | (cases hj; done) | exact LeX.append _ _ _) ?_
  refine CallS.pure (wide_runs w) rfl ?_
  refine br_intro (fun c => ?_) (fun c => ?_)
  · have c : wideP w := by simpa using c
    exact And.intro (fin_i (by simp [c])) rfl
  · have c : ¬ wideP w := by simpa using c
    exact And.intro (fin_i (by simp [c])) rfl

theorem widthR0_21 (d : DescD) (f : FormD) (w a b : Int) (ha : I64 a) (hb : I64 b)  :
    Runs Tryz.prog 10 [descT d, formT f, .agg [.int .i64 21, .int .i64 w, .int .i64 a, .int .i64 b, .vecd 5 []]] (.t (.int .i64 (wid0 d f 21 w a b))) := by
  have e : wid0 d f 21 w a b = regW d f a b := rfl
  rw [e]
  refine Runs.of_call ?_ rfl
  refine CallS.of_fn tabS_ok regS_ok Tryz.func10 rfl rfl ?_
  refine loop_un 1 ?_
  refine draw_introS ord_10_12 (by decide +kernel) ?_
  refine And.intro (fun j hj => by first | (cases hj; done) | exact LeX.append _ _ _) ?_
  refine And.intro (fun j hj => by first | (cases hj; done) | exact LeX.append _ _ _) ?_
  refine CallS.frzG (register_runs_r d f 21 w a b [] hb) rfl ⟨.refl _, .refl _, .refl _, trivial⟩ ?_
  exact And.intro rfl rfl

theorem widthR0_22 (d : DescD) (f : FormD) (w a b : Int) (ha : I64 a) (hb : I64 b)  :
    Runs Tryz.prog 10 [descT d, formT f, .agg [.int .i64 22, .int .i64 w, .int .i64 a, .int .i64 b, .vecd 5 []]] (.t (.int .i64 (wid0 d f 22 w a b))) := by
  have e : wid0 d f 22 w a b = (match at? f.args a with
    | none => 0
    | some g => match at? d.classes g.cls with
      | none => 0
      | some k => if wideP w ∧ k.kind ≠ 1 then w else 0) := rfl
  rw [e]
  refine Runs.of_call ?_ rfl
  refine CallS.of_fn tabS_ok regS_ok Tryz.func10 rfl rfl ?_
  refine loop_un 1 ?_
  refine draw_introS ord_10_12 (by decide +kernel) ?_
  refine And.intro (fun j hj => by first | (cases hj; done) | exact LeX.append _ _ _) ?_
  refine And.intro (fun j hj => by first | (cases hj; done) | exact LeX.append _ _ _) ?_
  refine draw_introS ord_10_51 (by decide +kernel) ?_
  refine CallS.pure (wide_runs w) rfl ?_
  refine And.intro (fun j hj => by first | (cases hj; done) | exact LeX.append _ _ _) ?_
  refine br_intro (fun c => ?_) (fun c => ?_)
  · have c : wideP w := by simpa using c
    refine CallS.pure (place_runs _ _) rfl ?_
    refine And.intro (fun j hj => by first | (cases hj; done) | exact LeX.append _ _ _) ?_
    refine br_intro (fun c1 => ?_) (fun c1 => ?_)
    · have h1 := am1 c1
      obtain ⟨g, g1, g2, g3⟩ := at_some h1
      rw [g1]
      refine ck_intro (ix0 rfl h1.1) ?_
      refine opt_intro (row_get g3) ?_
      refine CallS.pure (place_runs _ _) rfl ?_
      refine And.intro (fun j hj => by first | (cases hj; done) | exact LeX.append _ _ _) ?_
      refine br_intro (fun c2 => ?_) (fun c2 => ?_)
      · have h2 := am1 c2
        obtain ⟨k, k1, k2, k3⟩ := at_some h2
        refine ck_intro (ix0 rfl h1.1) ?_
        refine opt_intro (row_get g3) ?_
        refine ck_intro (ix0 rfl h2.1) ?_
        refine opt_intro (row_get k3) ?_
        refine br_intro (fun c3 => ?_) (fun c3 => ?_)
        · have c3 : (k.kind ≠ 1) := by simpa using c3
          exact And.intro (fin_i (by simp only [k1]; simp [c, c3])) rfl
        · have c3 : ¬ (k.kind ≠ 1) := by simpa using c3
          exact And.intro (fin_i (by simp only [k1]; rw [if_neg fun h => c3 h.2])) rfl
      · have h2 := at_none (am0 c2)
        exact And.intro (fin_i (by simp only [h2])) rfl
    · have h1 := at_none (am0 c1)
      refine And.intro (fun j hj => by first | (cases hj; done) | exact LeX.append _ _ _) ?_
      exact And.intro (fin_i (by rw [h1])) rfl
  · have c : ¬ wideP w := by simpa using c
    refine And.intro (fun j hj => by first | (cases hj; done) | exact LeX.append _ _ _) ?_
    refine And.intro (fun j hj => by first | (cases hj; done) | exact LeX.append _ _ _) ?_
    exact And.intro (fin_i (by
      cases at? f.args a with
      | none => rfl
      | some g =>
        simp only
        cases at? d.classes g.cls with
        | none => rfl
        | some k => simp [c])) rfl

theorem widthR0_23 (d : DescD) (f : FormD) (w a b : Int) (ha : I64 a) (hb : I64 b)  :
    Runs Tryz.prog 10 [descT d, formT f, .agg [.int .i64 23, .int .i64 w, .int .i64 a, .int .i64 b, .vecd 5 []]] (.t (.int .i64 (wid0 d f 23 w a b))) := by
  have e : wid0 d f 23 w a b = 64 := rfl
  rw [e]
  refine Runs.of_call ?_ rfl
  refine CallS.of_fn tabS_ok regS_ok Tryz.func10 rfl rfl ?_
  refine loop_un 1 ?_
  refine draw_introS ord_10_12 (by decide +kernel) ?_
  refine And.intro (fun j hj => by first | (cases hj; done) | exact LeX.append _ _ _) ?_
  refine And.intro (fun j hj => by first | (cases hj; done) | exact LeX.append _ _ _) ?_
  exact And.intro rfl rfl

theorem widthR0_24 (d : DescD) (f : FormD) (w a b : Int) (ha : I64 a) (hb : I64 b)  :
    Runs Tryz.prog 10 [descT d, formT f, .agg [.int .i64 24, .int .i64 w, .int .i64 a, .int .i64 b, .vecd 5 []]] (.t (.int .i64 (wid0 d f 24 w a b))) := by
  have e : wid0 d f 24 w a b = 64 := rfl
  rw [e]
  refine Runs.of_call ?_ rfl
  refine CallS.of_fn tabS_ok regS_ok Tryz.func10 rfl rfl ?_
  refine loop_un 1 ?_
  refine draw_introS ord_10_12 (by decide +kernel) ?_
  refine And.intro (fun j hj => by first | (cases hj; done) | exact LeX.append _ _ _) ?_
  refine And.intro (fun j hj => by first | (cases hj; done) | exact LeX.append _ _ _) ?_
  exact And.intro rfl rfl

theorem widthR0_25 (d : DescD) (f : FormD) (w a b : Int) (ha : I64 a) (hb : I64 b)  :
    Runs Tryz.prog 10 [descT d, formT f, .agg [.int .i64 25, .int .i64 w, .int .i64 a, .int .i64 b, .vecd 5 []]] (.t (.int .i64 (wid0 d f 25 w a b))) := by
  have e : wid0 d f 25 w a b = if 0 ≤ a ∧ a < d.flags.length then 1 else 0 := rfl
  rw [e]
  refine Runs.of_call ?_ rfl
  refine CallS.of_fn tabS_ok regS_ok Tryz.func10 rfl rfl ?_
  refine loop_un 1 ?_
  refine draw_introS ord_10_12 (by decide +kernel) ?_
  refine And.intro (fun j hj => by first | (cases hj; done) | exact LeX.append _ _ _) ?_
  refine And.intro (fun j hj => by first | (cases hj; done) | exact LeX.append _ _ _) ?_
  refine CallS.pure (place_runs _ _) rfl ?_
  refine br_intro (fun c => ?_) (fun c => ?_)
  · exact And.intro (fin_i (if_pos (am1 c)).symm) rfl
  · exact And.intro (fin_i (if_neg (am0 c)).symm) rfl

theorem widthR1_18 (d : DescD) (f : FormD) (w a b : Int) (ha : I64 a) (hb : I64 b) {k0 : T} {x : Int} (hk0 : IsTerm k0) (hx0 : 0 ≤ x ∧ x ≤ 128)
    (hr0 : Runs Tryz.prog 10 [descT d, formT f, k0] (.t (.int .i64 x))) :
    Runs Tryz.prog 10 [descT d, formT f, .agg [.int .i64 18, .int .i64 w, .int .i64 a, .int .i64 b, .vecd 5 [k0]]] (.t (.int .i64 (wid1 18 w a b x))) := by
  cases hk0 with | mk o0 w0 a0 b0 s0 _ _ _ _ _ _ =>
  have e : wid1 18 w a b x = if x = 0 then 0 else x := by unfold wid1; simp
  rw [e]
  refine Runs.of_call ?_ rfl
  refine CallS.of_fn tabS_ok regS_ok Tryz.func10 rfl rfl ?_
  refine loop_un 2 ?_
  refine CallS.frzG hr0 rfl ⟨.refl _, .refl _, .refl _, trivial⟩ ?_
  refine br_intro (fun c => ?_) (fun c0 => ?_)
  · have c : x = 0 := by simpa using c
    exact And.intro (fin_i (if_pos (by omega)).symm) rfl
  have c0 : ¬ x = 0 := by simpa using c0
  refine draw_introS ord_10_12 (by decide +kernel) ?_
  refine And.intro (fun j hj => by first | (cases hj; done) | exact LeX.append _ _ _) ?_
  refine And.intro (fun j hj => by first | (cases hj; done) | exact LeX.append _ _ _) ?_
  have cz : ¬ (x = 0) := by omega
  rw [if_neg cz]
  exact And.intro rfl rfl

theorem widthR1_19 (d : DescD) (f : FormD) (w a b : Int) (ha : I64 a) (hb : I64 b) {k0 : T} {x : Int} (hk0 : IsTerm k0) (hx0 : 0 ≤ x ∧ x ≤ 128)
    (hr0 : Runs Tryz.prog 10 [descT d, formT f, k0] (.t (.int .i64 x))) :
    Runs Tryz.prog 10 [descT d, formT f, .agg [.int .i64 19, .int .i64 w, .int .i64 a, .int .i64 b, .vecd 5 [k0]]] (.t (.int .i64 (wid1 19 w a b x))) := by
  cases hk0 with | mk o0 w0 a0 b0 s0 _ _ _ _ _ _ =>
  have e : wid1 19 w a b x = if x = 0 then 0 else x := by unfold wid1; simp
  rw [e]
  refine Runs.of_call ?_ rfl
  refine CallS.of_fn tabS_ok regS_ok Tryz.func10 rfl rfl ?_
  refine loop_un 2 ?_
  refine CallS.frzG hr0 rfl ⟨.refl _, .refl _, .refl _, trivial⟩ ?_
  refine br_intro (fun c => ?_) (fun c0 => ?_)
  · have c : x = 0 := by simpa using c
    exact And.intro (fin_i (if_pos (by omega)).symm) rfl
  have c0 : ¬ x = 0 := by simpa using c0
  refine draw_introS ord_10_12 (by decide +kernel) ?_
  refine And.intro (fun j hj => by first | (cases hj; done) | exact LeX.append _ _ _) ?_
  refine And.intro (fun j hj => by first | (cases hj; done) | exact LeX.append _ _ _) ?_
  have cz : ¬ (x = 0) := by omega
  rw [if_neg cz]
  exact And.intro rfl rfl

theorem widthR1_26 (d : DescD) (f : FormD) (w a b : Int) (ha : I64 a) (hb : I64 b) {k0 : T} {x : Int} (hk0 : IsTerm k0) (hx0 : 0 ≤ x ∧ x ≤ 128)
    (hr0 : Runs Tryz.prog 10 [descT d, formT f, k0] (.t (.int .i64 x))) :
    Runs Tryz.prog 10 [descT d, formT f, .agg [.int .i64 26, .int .i64 w, .int .i64 a, .int .i64 b, .vecd 5 [k0]]] (.t (.int .i64 (wid1 26 w a b x))) := by
  cases hk0 with | mk o0 w0 a0 b0 s0 _ _ _ _ _ _ =>
  have e : wid1 26 w a b x = if x = 0 then 0 else (if memP w ∧ x = 64 then w else 0) := by unfold wid1; simp
  rw [e]
  refine Runs.of_call ?_ rfl
  refine CallS.of_fn tabS_ok regS_ok Tryz.func10 rfl rfl ?_
  refine loop_un 2 ?_
  refine CallS.frzG hr0 rfl ⟨.refl _, .refl _, .refl _, trivial⟩ ?_
  refine br_intro (fun c => ?_) (fun c0 => ?_)
  · have c : x = 0 := by simpa using c
    exact And.intro (fin_i (if_pos (by omega)).symm) rfl
  have c0 : ¬ x = 0 := by simpa using c0
  refine draw_introS ord_10_12 (by decide +kernel) ?_
  refine And.intro (fun j hj => by first | (cases hj; done) | exact LeX.append _ _ _) ?_
  refine And.intro (fun j hj => by first | (cases hj; done) | exact LeX.append _ _ _) ?_
  have cz : ¬ (x = 0) := by omega
  rw [if_neg cz]
  refine br_intro (fun q => ?_) (fun q => ?_)
  · have q : x = 64 := by simpa using q
    refine CallS.pure (memory_runs_r w) rfl ?_
    refine br_intro (fun c => ?_) (fun c => ?_)
    · have c : memP w := by simpa using c
      exact And.intro (fin_i (by simp [c, q])) rfl
    · have c : ¬ memP w := by simpa using c
      exact And.intro (fin_i (by simp [c])) rfl
  · have q : ¬ x = 64 := by simpa using q
    exact And.intro (fin_i (by simp [q])) rfl

theorem widthR1_28 (d : DescD) (f : FormD) (w a b : Int) (ha : I64 a) (hb : I64 b) {k0 : T} {x : Int} (hk0 : IsTerm k0) (hx0 : 0 ≤ x ∧ x ≤ 128)
    (hr0 : Runs Tryz.prog 10 [descT d, formT f, k0] (.t (.int .i64 x))) :
    Runs Tryz.prog 10 [descT d, formT f, .agg [.int .i64 28, .int .i64 w, .int .i64 a, .int .i64 b, .vecd 5 [k0]]] (.t (.int .i64 (wid1 28 w a b x))) := by
  cases hk0 with | mk o0 w0 a0 b0 s0 _ _ _ _ _ _ =>
  have e : wid1 28 w a b x = if x = 0 then 0 else (if wideP w then w else 0) := by unfold wid1; simp
  rw [e]
  refine Runs.of_call ?_ rfl
  refine CallS.of_fn tabS_ok regS_ok Tryz.func10 rfl rfl ?_
  refine loop_un 2 ?_
  refine CallS.frzG hr0 rfl ⟨.refl _, .refl _, .refl _, trivial⟩ ?_
  refine br_intro (fun c => ?_) (fun c0 => ?_)
  · have c : x = 0 := by simpa using c
    exact And.intro (fin_i (if_pos (by omega)).symm) rfl
  have c0 : ¬ x = 0 := by simpa using c0
  refine draw_introS ord_10_12 (by decide +kernel) ?_
  refine And.intro (fun j hj => by first | (cases hj; done) | exact LeX.append _ _ _) ?_
  refine And.intro (fun j hj => by first | (cases hj; done) | exact LeX.append _ _ _) ?_
  have cz : ¬ (x = 0) := by omega
  rw [if_neg cz]
  refine CallS.pure (wide_runs w) rfl ?_
  refine br_intro (fun c => ?_) (fun c => ?_)
  · have c : wideP w := by simpa using c
    exact And.intro (fin_i (by simp [c])) rfl
  · have c : ¬ wideP w := by simpa using c
    exact And.intro (fin_i (by simp [c])) rfl

theorem widthR1_29 (d : DescD) (f : FormD) (w a b : Int) (ha : I64 a) (hb : I64 b) {k0 : T} {x : Int} (hk0 : IsTerm k0) (hx0 : 0 ≤ x ∧ x ≤ 128)
    (hr0 : Runs Tryz.prog 10 [descT d, formT f, k0] (.t (.int .i64 x))) :
    Runs Tryz.prog 10 [descT d, formT f, .agg [.int .i64 29, .int .i64 w, .int .i64 a, .int .i64 b, .vecd 5 [k0]]] (.t (.int .i64 (wid1 29 w a b x))) := by
  cases hk0 with | mk o0 w0 a0 b0 s0 _ _ _ _ _ _ =>
  have e : wid1 29 w a b x = if x = 0 then 0 else (if wideP w then w else 0) := by unfold wid1; simp
  rw [e]
  refine Runs.of_call ?_ rfl
  refine CallS.of_fn tabS_ok regS_ok Tryz.func10 rfl rfl ?_
  refine loop_un 2 ?_
  refine CallS.frzG hr0 rfl ⟨.refl _, .refl _, .refl _, trivial⟩ ?_
  refine br_intro (fun c => ?_) (fun c0 => ?_)
  · have c : x = 0 := by simpa using c
    exact And.intro (fin_i (if_pos (by omega)).symm) rfl
  have c0 : ¬ x = 0 := by simpa using c0
  refine draw_introS ord_10_12 (by decide +kernel) ?_
  refine And.intro (fun j hj => by first | (cases hj; done) | exact LeX.append _ _ _) ?_
  refine And.intro (fun j hj => by first | (cases hj; done) | exact LeX.append _ _ _) ?_
  have cz : ¬ (x = 0) := by omega
  rw [if_neg cz]
  refine CallS.pure (wide_runs w) rfl ?_
  refine br_intro (fun c => ?_) (fun c => ?_)
  · have c : wideP w := by simpa using c
    exact And.intro (fin_i (by simp [c])) rfl
  · have c : ¬ wideP w := by simpa using c
    exact And.intro (fin_i (by simp [c])) rfl

theorem widthR1_30 (d : DescD) (f : FormD) (w a b : Int) (ha : I64 a) (hb : I64 b) {k0 : T} {x : Int} (hk0 : IsTerm k0) (hx0 : 0 ≤ x ∧ x ≤ 128)
    (hr0 : Runs Tryz.prog 10 [descT d, formT f, k0] (.t (.int .i64 x))) :
    Runs Tryz.prog 10 [descT d, formT f, .agg [.int .i64 30, .int .i64 w, .int .i64 a, .int .i64 b, .vecd 5 [k0]]] (.t (.int .i64 (wid1 30 w a b x))) := by
  cases hk0 with | mk o0 w0 a0 b0 s0 _ _ _ _ _ _ =>
  have e : wid1 30 w a b x = if x = 0 then 0 else (if 0 ≤ b ∧ b ≤ a ∧ a < x then a - b + 1 else 0) := by unfold wid1; simp
  rw [e]
  refine Runs.of_call ?_ rfl
  refine CallS.of_fn tabS_ok regS_ok Tryz.func10 rfl rfl ?_
  refine loop_un 2 ?_
  refine CallS.frzG hr0 rfl ⟨.refl _, .refl _, .refl _, trivial⟩ ?_
  refine br_intro (fun c => ?_) (fun c0 => ?_)
  · have c : x = 0 := by simpa using c
    exact And.intro (fin_i (if_pos (by omega)).symm) rfl
  have c0 : ¬ x = 0 := by simpa using c0
  refine draw_introS ord_10_12 (by decide +kernel) ?_
  refine And.intro (fun j hj => by first | (cases hj; done) | exact LeX.append _ _ _) ?_
  refine And.intro (fun j hj => by first | (cases hj; done) | exact LeX.append _ _ _) ?_
  have cz : ¬ (x = 0) := by omega
  rw [if_neg cz]
  refine br_intro (fun q1 => ?_) (fun q1 => ?_)
  · have q1 : 0 ≤ b := by simpa using q1
    refine br_intro (fun q2 => ?_) (fun q2 => ?_)
    · have q2 : b ≤ a := by simpa using q2
      refine br_intro (fun q3 => ?_) (fun q3 => ?_)
      · have q3 : a < x := by simpa using q3
        refine st_intro (i64_int (n := a - b) (by omega) (by omega)) ?_
        refine st_intro (i64_int (n := a - b + 1) (by omega) (by omega)) ?_
        exact And.intro (fin_i (by simp [q1, q2, q3])) rfl
      · have q3 : ¬ a < x := by simpa using q3
        exact And.intro (fin_i (by simp [q3])) rfl
    · have q2 : ¬ b ≤ a := by simpa using q2
      exact And.intro (fin_i (by simp [q2])) rfl
  · have q1 : ¬ 0 ≤ b := by simpa using q1
    exact And.intro (fin_i (by simp [q1])) rfl

theorem widthR2_1 (d : DescD) (f : FormD) (w a b : Int) (ha : I64 a) (hb : I64 b) {k0 : T} {x : Int} (hk0 : IsTerm k0) (hx0 : 0 ≤ x ∧ x ≤ 128)
    (hr0 : Runs Tryz.prog 10 [descT d, formT f, k0] (.t (.int .i64 x))) {k1 : T} {y : Int} (hk1 : IsTerm k1) (hx1 : 0 ≤ y ∧ y ≤ 128)
    (hr1 : Runs Tryz.prog 10 [descT d, formT f, k1] (.t (.int .i64 y))) :
    Runs Tryz.prog 10 [descT d, formT f, .agg [.int .i64 1, .int .i64 w, .int .i64 a, .int .i64 b, .vecd 5 [k0, k1]]] (.t (.int .i64 (wid2 1 x y))) := by
  cases hk0 with | mk o0 w0 a0 b0 s0 _ _ _ _ _ _ =>
  cases hk1 with | mk o1 w1 a1 b1 s1 _ _ _ _ _ _ =>
  have e : wid2 1 x y = if x = 0 ∨ y = 0 then 0 else (if x = y then x else 0) := by unfold wid2; simp
  rw [e]
  refine Runs.of_call ?_ rfl
  refine CallS.of_fn tabS_ok regS_ok Tryz.func10 rfl rfl ?_
  refine loop_un 3 ?_
  refine CallS.frzG hr0 rfl ⟨.refl _, .refl _, .refl _, trivial⟩ ?_
  refine br_intro (fun c => ?_) (fun c0 => ?_)
  · have c : x = 0 := by simpa using c
    exact And.intro (fin_i (if_pos (by omega)).symm) rfl
  have c0 : ¬ x = 0 := by simpa using c0
  refine CallS.frzG hr1 rfl ⟨.refl _, .refl _, .refl _, trivial⟩ ?_
  refine br_intro (fun c => ?_) (fun c1 => ?_)
  · have c : y = 0 := by simpa using c
    exact And.intro (fin_i (if_pos (by omega)).symm) rfl
  have c1 : ¬ y = 0 := by simpa using c1
  refine draw_introS ord_10_12 (by decide +kernel) ?_
  refine And.intro (fun j hj => by first | (cases hj; done) | exact LeX.append _ _ _) ?_
  refine And.intro (fun j hj => by first | (cases hj; done) | exact LeX.append _ _ _) ?_
  have cz : ¬ (x = 0 ∨ y = 0) := by omega
  rw [if_neg cz]
  refine br_intro (fun c => ?_) (fun c => ?_)
  · have c : x = y := by simpa using c
    exact And.intro (fin_i (by simp [c])) rfl
  · have c : ¬ x = y := by simpa using c
    exact And.intro (fin_i (by simp [c])) rfl

theorem widthR2_2 (d : DescD) (f : FormD) (w a b : Int) (ha : I64 a) (hb : I64 b) {k0 : T} {x : Int} (hk0 : IsTerm k0) (hx0 : 0 ≤ x ∧ x ≤ 128)
    (hr0 : Runs Tryz.prog 10 [descT d, formT f, k0] (.t (.int .i64 x))) {k1 : T} {y : Int} (hk1 : IsTerm k1) (hx1 : 0 ≤ y ∧ y ≤ 128)
    (hr1 : Runs Tryz.prog 10 [descT d, formT f, k1] (.t (.int .i64 y))) :
    Runs Tryz.prog 10 [descT d, formT f, .agg [.int .i64 2, .int .i64 w, .int .i64 a, .int .i64 b, .vecd 5 [k0, k1]]] (.t (.int .i64 (wid2 2 x y))) := by
  cases hk0 with | mk o0 w0 a0 b0 s0 _ _ _ _ _ _ =>
  cases hk1 with | mk o1 w1 a1 b1 s1 _ _ _ _ _ _ =>
  have e : wid2 2 x y = if x = 0 ∨ y = 0 then 0 else (if x = y then x else 0) := by unfold wid2; simp
  rw [e]
  refine Runs.of_call ?_ rfl
  refine CallS.of_fn tabS_ok regS_ok Tryz.func10 rfl rfl ?_
  refine loop_un 3 ?_
  refine CallS.frzG hr0 rfl ⟨.refl _, .refl _, .refl _, trivial⟩ ?_
  refine br_intro (fun c => ?_) (fun c0 => ?_)
  · have c : x = 0 := by simpa using c
    exact And.intro (fin_i (if_pos (by omega)).symm) rfl
  have c0 : ¬ x = 0 := by simpa using c0
  refine CallS.frzG hr1 rfl ⟨.refl _, .refl _, .refl _, trivial⟩ ?_
  refine br_intro (fun c => ?_) (fun c1 => ?_)
  · have c : y = 0 := by simpa using c
    exact And.intro (fin_i (if_pos (by omega)).symm) rfl
  have c1 : ¬ y = 0 := by simpa using c1
  refine draw_introS ord_10_12 (by decide +kernel) ?_
  refine And.intro (fun j hj => by first | (cases hj; done) | exact LeX.append _ _ _) ?_
  refine And.intro (fun j hj => by first | (cases hj; done) | exact LeX.append _ _ _) ?_
  have cz : ¬ (x = 0 ∨ y = 0) := by omega
  rw [if_neg cz]
  refine br_intro (fun c => ?_) (fun c => ?_)
  · have c : x = y := by simpa using c
    exact And.intro (fin_i (by simp [c])) rfl
  · have c : ¬ x = y := by simpa using c
    exact And.intro (fin_i (by simp [c])) rfl

theorem widthR2_3 (d : DescD) (f : FormD) (w a b : Int) (ha : I64 a) (hb : I64 b) {k0 : T} {x : Int} (hk0 : IsTerm k0) (hx0 : 0 ≤ x ∧ x ≤ 128)
    (hr0 : Runs Tryz.prog 10 [descT d, formT f, k0] (.t (.int .i64 x))) {k1 : T} {y : Int} (hk1 : IsTerm k1) (hx1 : 0 ≤ y ∧ y ≤ 128)
    (hr1 : Runs Tryz.prog 10 [descT d, formT f, k1] (.t (.int .i64 y))) :
    Runs Tryz.prog 10 [descT d, formT f, .agg [.int .i64 3, .int .i64 w, .int .i64 a, .int .i64 b, .vecd 5 [k0, k1]]] (.t (.int .i64 (wid2 3 x y))) := by
  cases hk0 with | mk o0 w0 a0 b0 s0 _ _ _ _ _ _ =>
  cases hk1 with | mk o1 w1 a1 b1 s1 _ _ _ _ _ _ =>
  have e : wid2 3 x y = if x = 0 ∨ y = 0 then 0 else (if x = y then x else 0) := by unfold wid2; simp
  rw [e]
  refine Runs.of_call ?_ rfl
  refine CallS.of_fn tabS_ok regS_ok Tryz.func10 rfl rfl ?_
  refine loop_un 3 ?_
  refine CallS.frzG hr0 rfl ⟨.refl _, .refl _, .refl _, trivial⟩ ?_
  refine br_intro (fun c => ?_) (fun c0 => ?_)
  · have c : x = 0 := by simpa using c
    exact And.intro (fin_i (if_pos (by omega)).symm) rfl
  have c0 : ¬ x = 0 := by simpa using c0
  refine CallS.frzG hr1 rfl ⟨.refl _, .refl _, .refl _, trivial⟩ ?_
  refine br_intro (fun c => ?_) (fun c1 => ?_)
  · have c : y = 0 := by simpa using c
    exact And.intro (fin_i (if_pos (by omega)).symm) rfl
  have c1 : ¬ y = 0 := by simpa using c1
  refine draw_introS ord_10_12 (by decide +kernel) ?_
  refine And.intro (fun j hj => by first | (cases hj; done) | exact LeX.append _ _ _) ?_
  refine And.intro (fun j hj => by first | (cases hj; done) | exact LeX.append _ _ _) ?_
  have cz : ¬ (x = 0 ∨ y = 0) := by omega
  rw [if_neg cz]
  refine br_intro (fun c => ?_) (fun c => ?_)
  · have c : x = y := by simpa using c
    exact And.intro (fin_i (by simp [c])) rfl
  · have c : ¬ x = y := by simpa using c
    exact And.intro (fin_i (by simp [c])) rfl

theorem widthR2_4 (d : DescD) (f : FormD) (w a b : Int) (ha : I64 a) (hb : I64 b) {k0 : T} {x : Int} (hk0 : IsTerm k0) (hx0 : 0 ≤ x ∧ x ≤ 128)
    (hr0 : Runs Tryz.prog 10 [descT d, formT f, k0] (.t (.int .i64 x))) {k1 : T} {y : Int} (hk1 : IsTerm k1) (hx1 : 0 ≤ y ∧ y ≤ 128)
    (hr1 : Runs Tryz.prog 10 [descT d, formT f, k1] (.t (.int .i64 y))) :
    Runs Tryz.prog 10 [descT d, formT f, .agg [.int .i64 4, .int .i64 w, .int .i64 a, .int .i64 b, .vecd 5 [k0, k1]]] (.t (.int .i64 (wid2 4 x y))) := by
  cases hk0 with | mk o0 w0 a0 b0 s0 _ _ _ _ _ _ =>
  cases hk1 with | mk o1 w1 a1 b1 s1 _ _ _ _ _ _ =>
  have e : wid2 4 x y = if x = 0 ∨ y = 0 then 0 else (if x = y then x else 0) := by unfold wid2; simp
  rw [e]
  refine Runs.of_call ?_ rfl
  refine CallS.of_fn tabS_ok regS_ok Tryz.func10 rfl rfl ?_
  refine loop_un 3 ?_
  refine CallS.frzG hr0 rfl ⟨.refl _, .refl _, .refl _, trivial⟩ ?_
  refine br_intro (fun c => ?_) (fun c0 => ?_)
  · have c : x = 0 := by simpa using c
    exact And.intro (fin_i (if_pos (by omega)).symm) rfl
  have c0 : ¬ x = 0 := by simpa using c0
  refine CallS.frzG hr1 rfl ⟨.refl _, .refl _, .refl _, trivial⟩ ?_
  refine br_intro (fun c => ?_) (fun c1 => ?_)
  · have c : y = 0 := by simpa using c
    exact And.intro (fin_i (if_pos (by omega)).symm) rfl
  have c1 : ¬ y = 0 := by simpa using c1
  refine draw_introS ord_10_12 (by decide +kernel) ?_
  refine And.intro (fun j hj => by first | (cases hj; done) | exact LeX.append _ _ _) ?_
  refine And.intro (fun j hj => by first | (cases hj; done) | exact LeX.append _ _ _) ?_
  have cz : ¬ (x = 0 ∨ y = 0) := by omega
  rw [if_neg cz]
  refine br_intro (fun c => ?_) (fun c => ?_)
  · have c : x = y := by simpa using c
    exact And.intro (fin_i (by simp [c])) rfl
  · have c : ¬ x = y := by simpa using c
    exact And.intro (fin_i (by simp [c])) rfl

theorem widthR2_5 (d : DescD) (f : FormD) (w a b : Int) (ha : I64 a) (hb : I64 b) {k0 : T} {x : Int} (hk0 : IsTerm k0) (hx0 : 0 ≤ x ∧ x ≤ 128)
    (hr0 : Runs Tryz.prog 10 [descT d, formT f, k0] (.t (.int .i64 x))) {k1 : T} {y : Int} (hk1 : IsTerm k1) (hx1 : 0 ≤ y ∧ y ≤ 128)
    (hr1 : Runs Tryz.prog 10 [descT d, formT f, k1] (.t (.int .i64 y))) :
    Runs Tryz.prog 10 [descT d, formT f, .agg [.int .i64 5, .int .i64 w, .int .i64 a, .int .i64 b, .vecd 5 [k0, k1]]] (.t (.int .i64 (wid2 5 x y))) := by
  cases hk0 with | mk o0 w0 a0 b0 s0 _ _ _ _ _ _ =>
  cases hk1 with | mk o1 w1 a1 b1 s1 _ _ _ _ _ _ =>
  have e : wid2 5 x y = if x = 0 ∨ y = 0 then 0 else (if x = y then x else 0) := by unfold wid2; simp
  rw [e]
  refine Runs.of_call ?_ rfl
  refine CallS.of_fn tabS_ok regS_ok Tryz.func10 rfl rfl ?_
  refine loop_un 3 ?_
  refine CallS.frzG hr0 rfl ⟨.refl _, .refl _, .refl _, trivial⟩ ?_
  refine br_intro (fun c => ?_) (fun c0 => ?_)
  · have c : x = 0 := by simpa using c
    exact And.intro (fin_i (if_pos (by omega)).symm) rfl
  have c0 : ¬ x = 0 := by simpa using c0
  refine CallS.frzG hr1 rfl ⟨.refl _, .refl _, .refl _, trivial⟩ ?_
  refine br_intro (fun c => ?_) (fun c1 => ?_)
  · have c : y = 0 := by simpa using c
    exact And.intro (fin_i (if_pos (by omega)).symm) rfl
  have c1 : ¬ y = 0 := by simpa using c1
  refine draw_introS ord_10_12 (by decide +kernel) ?_
  refine And.intro (fun j hj => by first | (cases hj; done) | exact LeX.append _ _ _) ?_
  refine And.intro (fun j hj => by first | (cases hj; done) | exact LeX.append _ _ _) ?_
  have cz : ¬ (x = 0 ∨ y = 0) := by omega
  rw [if_neg cz]
  refine br_intro (fun c => ?_) (fun c => ?_)
  · have c : x = y := by simpa using c
    exact And.intro (fin_i (by simp [c])) rfl
  · have c : ¬ x = y := by simpa using c
    exact And.intro (fin_i (by simp [c])) rfl

theorem widthR2_6 (d : DescD) (f : FormD) (w a b : Int) (ha : I64 a) (hb : I64 b) {k0 : T} {x : Int} (hk0 : IsTerm k0) (hx0 : 0 ≤ x ∧ x ≤ 128)
    (hr0 : Runs Tryz.prog 10 [descT d, formT f, k0] (.t (.int .i64 x))) {k1 : T} {y : Int} (hk1 : IsTerm k1) (hx1 : 0 ≤ y ∧ y ≤ 128)
    (hr1 : Runs Tryz.prog 10 [descT d, formT f, k1] (.t (.int .i64 y))) :
    Runs Tryz.prog 10 [descT d, formT f, .agg [.int .i64 6, .int .i64 w, .int .i64 a, .int .i64 b, .vecd 5 [k0, k1]]] (.t (.int .i64 (wid2 6 x y))) := by
  cases hk0 with | mk o0 w0 a0 b0 s0 _ _ _ _ _ _ =>
  cases hk1 with | mk o1 w1 a1 b1 s1 _ _ _ _ _ _ =>
  have e : wid2 6 x y = if x = 0 ∨ y = 0 then 0 else (if x = y then x else 0) := by unfold wid2; simp
  rw [e]
  refine Runs.of_call ?_ rfl
  refine CallS.of_fn tabS_ok regS_ok Tryz.func10 rfl rfl ?_
  refine loop_un 3 ?_
  refine CallS.frzG hr0 rfl ⟨.refl _, .refl _, .refl _, trivial⟩ ?_
  refine br_intro (fun c => ?_) (fun c0 => ?_)
  · have c : x = 0 := by simpa using c
    exact And.intro (fin_i (if_pos (by omega)).symm) rfl
  have c0 : ¬ x = 0 := by simpa using c0
  refine CallS.frzG hr1 rfl ⟨.refl _, .refl _, .refl _, trivial⟩ ?_
  refine br_intro (fun c => ?_) (fun c1 => ?_)
  · have c : y = 0 := by simpa using c
    exact And.intro (fin_i (if_pos (by omega)).symm) rfl
  have c1 : ¬ y = 0 := by simpa using c1
  refine draw_introS ord_10_12 (by decide +kernel) ?_
  refine And.intro (fun j hj => by first | (cases hj; done) | exact LeX.append _ _ _) ?_
  refine And.intro (fun j hj => by first | (cases hj; done) | exact LeX.append _ _ _) ?_
  have cz : ¬ (x = 0 ∨ y = 0) := by omega
  rw [if_neg cz]
  refine br_intro (fun c => ?_) (fun c => ?_)
  · have c : x = y := by simpa using c
    exact And.intro (fin_i (by simp [c])) rfl
  · have c : ¬ x = y := by simpa using c
    exact And.intro (fin_i (by simp [c])) rfl

theorem widthR2_7 (d : DescD) (f : FormD) (w a b : Int) (ha : I64 a) (hb : I64 b) {k0 : T} {x : Int} (hk0 : IsTerm k0) (hx0 : 0 ≤ x ∧ x ≤ 128)
    (hr0 : Runs Tryz.prog 10 [descT d, formT f, k0] (.t (.int .i64 x))) {k1 : T} {y : Int} (hk1 : IsTerm k1) (hx1 : 0 ≤ y ∧ y ≤ 128)
    (hr1 : Runs Tryz.prog 10 [descT d, formT f, k1] (.t (.int .i64 y))) :
    Runs Tryz.prog 10 [descT d, formT f, .agg [.int .i64 7, .int .i64 w, .int .i64 a, .int .i64 b, .vecd 5 [k0, k1]]] (.t (.int .i64 (wid2 7 x y))) := by
  cases hk0 with | mk o0 w0 a0 b0 s0 _ _ _ _ _ _ =>
  cases hk1 with | mk o1 w1 a1 b1 s1 _ _ _ _ _ _ =>
  have e : wid2 7 x y = if x = 0 ∨ y = 0 then 0 else x := by unfold wid2; simp
  rw [e]
  refine Runs.of_call ?_ rfl
  refine CallS.of_fn tabS_ok regS_ok Tryz.func10 rfl rfl ?_
  refine loop_un 3 ?_
  refine CallS.frzG hr0 rfl ⟨.refl _, .refl _, .refl _, trivial⟩ ?_
  refine br_intro (fun c => ?_) (fun c0 => ?_)
  · have c : x = 0 := by simpa using c
    exact And.intro (fin_i (if_pos (by omega)).symm) rfl
  have c0 : ¬ x = 0 := by simpa using c0
  refine CallS.frzG hr1 rfl ⟨.refl _, .refl _, .refl _, trivial⟩ ?_
  refine br_intro (fun c => ?_) (fun c1 => ?_)
  · have c : y = 0 := by simpa using c
    exact And.intro (fin_i (if_pos (by omega)).symm) rfl
  have c1 : ¬ y = 0 := by simpa using c1
  refine draw_introS ord_10_12 (by decide +kernel) ?_
  refine And.intro (fun j hj => by first | (cases hj; done) | exact LeX.append _ _ _) ?_
  refine And.intro (fun j hj => by first | (cases hj; done) | exact LeX.append _ _ _) ?_
  have cz : ¬ (x = 0 ∨ y = 0) := by omega
  rw [if_neg cz]
  exact And.intro rfl rfl

theorem widthR2_8 (d : DescD) (f : FormD) (w a b : Int) (ha : I64 a) (hb : I64 b) {k0 : T} {x : Int} (hk0 : IsTerm k0) (hx0 : 0 ≤ x ∧ x ≤ 128)
    (hr0 : Runs Tryz.prog 10 [descT d, formT f, k0] (.t (.int .i64 x))) {k1 : T} {y : Int} (hk1 : IsTerm k1) (hx1 : 0 ≤ y ∧ y ≤ 128)
    (hr1 : Runs Tryz.prog 10 [descT d, formT f, k1] (.t (.int .i64 y))) :
    Runs Tryz.prog 10 [descT d, formT f, .agg [.int .i64 8, .int .i64 w, .int .i64 a, .int .i64 b, .vecd 5 [k0, k1]]] (.t (.int .i64 (wid2 8 x y))) := by
  cases hk0 with | mk o0 w0 a0 b0 s0 _ _ _ _ _ _ =>
  cases hk1 with | mk o1 w1 a1 b1 s1 _ _ _ _ _ _ =>
  have e : wid2 8 x y = if x = 0 ∨ y = 0 then 0 else x := by unfold wid2; simp
  rw [e]
  refine Runs.of_call ?_ rfl
  refine CallS.of_fn tabS_ok regS_ok Tryz.func10 rfl rfl ?_
  refine loop_un 3 ?_
  refine CallS.frzG hr0 rfl ⟨.refl _, .refl _, .refl _, trivial⟩ ?_
  refine br_intro (fun c => ?_) (fun c0 => ?_)
  · have c : x = 0 := by simpa using c
    exact And.intro (fin_i (if_pos (by omega)).symm) rfl
  have c0 : ¬ x = 0 := by simpa using c0
  refine CallS.frzG hr1 rfl ⟨.refl _, .refl _, .refl _, trivial⟩ ?_
  refine br_intro (fun c => ?_) (fun c1 => ?_)
  · have c : y = 0 := by simpa using c
    exact And.intro (fin_i (if_pos (by omega)).symm) rfl
  have c1 : ¬ y = 0 := by simpa using c1
  refine draw_introS ord_10_12 (by decide +kernel) ?_
  refine And.intro (fun j hj => by first | (cases hj; done) | exact LeX.append _ _ _) ?_
  refine And.intro (fun j hj => by first | (cases hj; done) | exact LeX.append _ _ _) ?_
  have cz : ¬ (x = 0 ∨ y = 0) := by omega
  rw [if_neg cz]
  exact And.intro rfl rfl

theorem widthR2_9 (d : DescD) (f : FormD) (w a b : Int) (ha : I64 a) (hb : I64 b) {k0 : T} {x : Int} (hk0 : IsTerm k0) (hx0 : 0 ≤ x ∧ x ≤ 128)
    (hr0 : Runs Tryz.prog 10 [descT d, formT f, k0] (.t (.int .i64 x))) {k1 : T} {y : Int} (hk1 : IsTerm k1) (hx1 : 0 ≤ y ∧ y ≤ 128)
    (hr1 : Runs Tryz.prog 10 [descT d, formT f, k1] (.t (.int .i64 y))) :
    Runs Tryz.prog 10 [descT d, formT f, .agg [.int .i64 9, .int .i64 w, .int .i64 a, .int .i64 b, .vecd 5 [k0, k1]]] (.t (.int .i64 (wid2 9 x y))) := by
  cases hk0 with | mk o0 w0 a0 b0 s0 _ _ _ _ _ _ =>
  cases hk1 with | mk o1 w1 a1 b1 s1 _ _ _ _ _ _ =>
  have e : wid2 9 x y = if x = 0 ∨ y = 0 then 0 else x := by unfold wid2; simp
  rw [e]
  refine Runs.of_call ?_ rfl
  refine CallS.of_fn tabS_ok regS_ok Tryz.func10 rfl rfl ?_
  refine loop_un 3 ?_
  refine CallS.frzG hr0 rfl ⟨.refl _, .refl _, .refl _, trivial⟩ ?_
  refine br_intro (fun c => ?_) (fun c0 => ?_)
  · have c : x = 0 := by simpa using c
    exact And.intro (fin_i (if_pos (by omega)).symm) rfl
  have c0 : ¬ x = 0 := by simpa using c0
  refine CallS.frzG hr1 rfl ⟨.refl _, .refl _, .refl _, trivial⟩ ?_
  refine br_intro (fun c => ?_) (fun c1 => ?_)
  · have c : y = 0 := by simpa using c
    exact And.intro (fin_i (if_pos (by omega)).symm) rfl
  have c1 : ¬ y = 0 := by simpa using c1
  refine draw_introS ord_10_12 (by decide +kernel) ?_
  refine And.intro (fun j hj => by first | (cases hj; done) | exact LeX.append _ _ _) ?_
  refine And.intro (fun j hj => by first | (cases hj; done) | exact LeX.append _ _ _) ?_
  have cz : ¬ (x = 0 ∨ y = 0) := by omega
  rw [if_neg cz]
  exact And.intro rfl rfl

theorem widthR2_10 (d : DescD) (f : FormD) (w a b : Int) (ha : I64 a) (hb : I64 b) {k0 : T} {x : Int} (hk0 : IsTerm k0) (hx0 : 0 ≤ x ∧ x ≤ 128)
    (hr0 : Runs Tryz.prog 10 [descT d, formT f, k0] (.t (.int .i64 x))) {k1 : T} {y : Int} (hk1 : IsTerm k1) (hx1 : 0 ≤ y ∧ y ≤ 128)
    (hr1 : Runs Tryz.prog 10 [descT d, formT f, k1] (.t (.int .i64 y))) :
    Runs Tryz.prog 10 [descT d, formT f, .agg [.int .i64 10, .int .i64 w, .int .i64 a, .int .i64 b, .vecd 5 [k0, k1]]] (.t (.int .i64 (wid2 10 x y))) := by
  cases hk0 with | mk o0 w0 a0 b0 s0 _ _ _ _ _ _ =>
  cases hk1 with | mk o1 w1 a1 b1 s1 _ _ _ _ _ _ =>
  have e : wid2 10 x y = if x = 0 ∨ y = 0 then 0 else (if x = y then x else 0) := by unfold wid2; simp
  rw [e]
  refine Runs.of_call ?_ rfl
  refine CallS.of_fn tabS_ok regS_ok Tryz.func10 rfl rfl ?_
  refine loop_un 3 ?_
  refine CallS.frzG hr0 rfl ⟨.refl _, .refl _, .refl _, trivial⟩ ?_
  refine br_intro (fun c => ?_) (fun c0 => ?_)
  · have c : x = 0 := by simpa using c
    exact And.intro (fin_i (if_pos (by omega)).symm) rfl
  have c0 : ¬ x = 0 := by simpa using c0
  refine CallS.frzG hr1 rfl ⟨.refl _, .refl _, .refl _, trivial⟩ ?_
  refine br_intro (fun c => ?_) (fun c1 => ?_)
  · have c : y = 0 := by simpa using c
    exact And.intro (fin_i (if_pos (by omega)).symm) rfl
  have c1 : ¬ y = 0 := by simpa using c1
  refine draw_introS ord_10_12 (by decide +kernel) ?_
  refine And.intro (fun j hj => by first | (cases hj; done) | exact LeX.append _ _ _) ?_
  refine And.intro (fun j hj => by first | (cases hj; done) | exact LeX.append _ _ _) ?_
  have cz : ¬ (x = 0 ∨ y = 0) := by omega
  rw [if_neg cz]
  refine br_intro (fun c => ?_) (fun c => ?_)
  · have c : x = y := by simpa using c
    exact And.intro (fin_i (by simp [c])) rfl
  · have c : ¬ x = y := by simpa using c
    exact And.intro (fin_i (by simp [c])) rfl

theorem widthR2_11 (d : DescD) (f : FormD) (w a b : Int) (ha : I64 a) (hb : I64 b) {k0 : T} {x : Int} (hk0 : IsTerm k0) (hx0 : 0 ≤ x ∧ x ≤ 128)
    (hr0 : Runs Tryz.prog 10 [descT d, formT f, k0] (.t (.int .i64 x))) {k1 : T} {y : Int} (hk1 : IsTerm k1) (hx1 : 0 ≤ y ∧ y ≤ 128)
    (hr1 : Runs Tryz.prog 10 [descT d, formT f, k1] (.t (.int .i64 y))) :
    Runs Tryz.prog 10 [descT d, formT f, .agg [.int .i64 11, .int .i64 w, .int .i64 a, .int .i64 b, .vecd 5 [k0, k1]]] (.t (.int .i64 (wid2 11 x y))) := by
  cases hk0 with | mk o0 w0 a0 b0 s0 _ _ _ _ _ _ =>
  cases hk1 with | mk o1 w1 a1 b1 s1 _ _ _ _ _ _ =>
  have e : wid2 11 x y = if x = 0 ∨ y = 0 then 0 else (if x = y then x else 0) := by unfold wid2; simp
  rw [e]
  refine Runs.of_call ?_ rfl
  refine CallS.of_fn tabS_ok regS_ok Tryz.func10 rfl rfl ?_
  refine loop_un 3 ?_
  refine CallS.frzG hr0 rfl ⟨.refl _, .refl _, .refl _, trivial⟩ ?_
  refine br_intro (fun c => ?_) (fun c0 => ?_)
  · have c : x = 0 := by simpa using c
    exact And.intro (fin_i (if_pos (by omega)).symm) rfl
  have c0 : ¬ x = 0 := by simpa using c0
  refine CallS.frzG hr1 rfl ⟨.refl _, .refl _, .refl _, trivial⟩ ?_
  refine br_intro (fun c => ?_) (fun c1 => ?_)
  · have c : y = 0 := by simpa using c
    exact And.intro (fin_i (if_pos (by omega)).symm) rfl
  have c1 : ¬ y = 0 := by simpa using c1
  refine draw_introS ord_10_12 (by decide +kernel) ?_
  refine And.intro (fun j hj => by first | (cases hj; done) | exact LeX.append _ _ _) ?_
  refine And.intro (fun j hj => by first | (cases hj; done) | exact LeX.append _ _ _) ?_
  have cz : ¬ (x = 0 ∨ y = 0) := by omega
  rw [if_neg cz]
  refine br_intro (fun c => ?_) (fun c => ?_)
  · have c : x = y := by simpa using c
    exact And.intro (fin_i (by simp [c])) rfl
  · have c : ¬ x = y := by simpa using c
    exact And.intro (fin_i (by simp [c])) rfl

theorem widthR2_12 (d : DescD) (f : FormD) (w a b : Int) (ha : I64 a) (hb : I64 b) {k0 : T} {x : Int} (hk0 : IsTerm k0) (hx0 : 0 ≤ x ∧ x ≤ 128)
    (hr0 : Runs Tryz.prog 10 [descT d, formT f, k0] (.t (.int .i64 x))) {k1 : T} {y : Int} (hk1 : IsTerm k1) (hx1 : 0 ≤ y ∧ y ≤ 128)
    (hr1 : Runs Tryz.prog 10 [descT d, formT f, k1] (.t (.int .i64 y))) :
    Runs Tryz.prog 10 [descT d, formT f, .agg [.int .i64 12, .int .i64 w, .int .i64 a, .int .i64 b, .vecd 5 [k0, k1]]] (.t (.int .i64 (wid2 12 x y))) := by
  cases hk0 with | mk o0 w0 a0 b0 s0 _ _ _ _ _ _ =>
  cases hk1 with | mk o1 w1 a1 b1 s1 _ _ _ _ _ _ =>
  have e : wid2 12 x y = if x = 0 ∨ y = 0 then 0 else (if x = y then x else 0) := by unfold wid2; simp
  rw [e]
  refine Runs.of_call ?_ rfl
  refine CallS.of_fn tabS_ok regS_ok Tryz.func10 rfl rfl ?_
  refine loop_un 3 ?_
  refine CallS.frzG hr0 rfl ⟨.refl _, .refl _, .refl _, trivial⟩ ?_
  refine br_intro (fun c => ?_) (fun c0 => ?_)
  · have c : x = 0 := by simpa using c
    exact And.intro (fin_i (if_pos (by omega)).symm) rfl
  have c0 : ¬ x = 0 := by simpa using c0
  refine CallS.frzG hr1 rfl ⟨.refl _, .refl _, .refl _, trivial⟩ ?_
  refine br_intro (fun c => ?_) (fun c1 => ?_)
  · have c : y = 0 := by simpa using c
    exact And.intro (fin_i (if_pos (by omega)).symm) rfl
  have c1 : ¬ y = 0 := by simpa using c1
  refine draw_introS ord_10_12 (by decide +kernel) ?_
  refine And.intro (fun j hj => by first | (cases hj; done) | exact LeX.append _ _ _) ?_
  refine And.intro (fun j hj => by first | (cases hj; done) | exact LeX.append _ _ _) ?_
  have cz : ¬ (x = 0 ∨ y = 0) := by omega
  rw [if_neg cz]
  refine br_intro (fun c => ?_) (fun c => ?_)
  · have c : x = y := by simpa using c
    exact And.intro (fin_i (by simp [c])) rfl
  · have c : ¬ x = y := by simpa using c
    exact And.intro (fin_i (by simp [c])) rfl

theorem widthR2_13 (d : DescD) (f : FormD) (w a b : Int) (ha : I64 a) (hb : I64 b) {k0 : T} {x : Int} (hk0 : IsTerm k0) (hx0 : 0 ≤ x ∧ x ≤ 128)
    (hr0 : Runs Tryz.prog 10 [descT d, formT f, k0] (.t (.int .i64 x))) {k1 : T} {y : Int} (hk1 : IsTerm k1) (hx1 : 0 ≤ y ∧ y ≤ 128)
    (hr1 : Runs Tryz.prog 10 [descT d, formT f, k1] (.t (.int .i64 y))) :
    Runs Tryz.prog 10 [descT d, formT f, .agg [.int .i64 13, .int .i64 w, .int .i64 a, .int .i64 b, .vecd 5 [k0, k1]]] (.t (.int .i64 (wid2 13 x y))) := by
  cases hk0 with | mk o0 w0 a0 b0 s0 _ _ _ _ _ _ =>
  cases hk1 with | mk o1 w1 a1 b1 s1 _ _ _ _ _ _ =>
  have e : wid2 13 x y = if x = 0 ∨ y = 0 then 0 else (if x = y then x else 0) := by unfold wid2; simp
  rw [e]
  refine Runs.of_call ?_ rfl
  refine CallS.of_fn tabS_ok regS_ok Tryz.func10 rfl rfl ?_
  refine loop_un 3 ?_
  refine CallS.frzG hr0 rfl ⟨.refl _, .refl _, .refl _, trivial⟩ ?_
  refine br_intro (fun c => ?_) (fun c0 => ?_)
  · have c : x = 0 := by simpa using c
    exact And.intro (fin_i (if_pos (by omega)).symm) rfl
  have c0 : ¬ x = 0 := by simpa using c0
  refine CallS.frzG hr1 rfl ⟨.refl _, .refl _, .refl _, trivial⟩ ?_
  refine br_intro (fun c => ?_) (fun c1 => ?_)
  · have c : y = 0 := by simpa using c
    exact And.intro (fin_i (if_pos (by omega)).symm) rfl
  have c1 : ¬ y = 0 := by simpa using c1
  refine draw_introS ord_10_12 (by decide +kernel) ?_
  refine And.intro (fun j hj => by first | (cases hj; done) | exact LeX.append _ _ _) ?_
  refine And.intro (fun j hj => by first | (cases hj; done) | exact LeX.append _ _ _) ?_
  have cz : ¬ (x = 0 ∨ y = 0) := by omega
  rw [if_neg cz]
  refine br_intro (fun c => ?_) (fun c => ?_)
  · have c : x = y := by simpa using c
    exact And.intro (fin_i (by simp [c])) rfl
  · have c : ¬ x = y := by simpa using c
    exact And.intro (fin_i (by simp [c])) rfl

theorem widthR2_14 (d : DescD) (f : FormD) (w a b : Int) (ha : I64 a) (hb : I64 b) {k0 : T} {x : Int} (hk0 : IsTerm k0) (hx0 : 0 ≤ x ∧ x ≤ 128)
    (hr0 : Runs Tryz.prog 10 [descT d, formT f, k0] (.t (.int .i64 x))) {k1 : T} {y : Int} (hk1 : IsTerm k1) (hx1 : 0 ≤ y ∧ y ≤ 128)
    (hr1 : Runs Tryz.prog 10 [descT d, formT f, k1] (.t (.int .i64 y))) :
    Runs Tryz.prog 10 [descT d, formT f, .agg [.int .i64 14, .int .i64 w, .int .i64 a, .int .i64 b, .vecd 5 [k0, k1]]] (.t (.int .i64 (wid2 14 x y))) := by
  cases hk0 with | mk o0 w0 a0 b0 s0 _ _ _ _ _ _ =>
  cases hk1 with | mk o1 w1 a1 b1 s1 _ _ _ _ _ _ =>
  have e : wid2 14 x y = if x = 0 ∨ y = 0 then 0 else (if x = y then 1 else 0) := by unfold wid2; simp
  rw [e]
  refine Runs.of_call ?_ rfl
  refine CallS.of_fn tabS_ok regS_ok Tryz.func10 rfl rfl ?_
  refine loop_un 3 ?_
  refine CallS.frzG hr0 rfl ⟨.refl _, .refl _, .refl _, trivial⟩ ?_
  refine br_intro (fun c => ?_) (fun c0 => ?_)
  · have c : x = 0 := by simpa using c
    exact And.intro (fin_i (if_pos (by omega)).symm) rfl
  have c0 : ¬ x = 0 := by simpa using c0
  refine CallS.frzG hr1 rfl ⟨.refl _, .refl _, .refl _, trivial⟩ ?_
  refine br_intro (fun c => ?_) (fun c1 => ?_)
  · have c : y = 0 := by simpa using c
    exact And.intro (fin_i (if_pos (by omega)).symm) rfl
  have c1 : ¬ y = 0 := by simpa using c1
  refine draw_introS ord_10_12 (by decide +kernel) ?_
  refine And.intro (fun j hj => by first | (cases hj; done) | exact LeX.append _ _ _) ?_
  refine And.intro (fun j hj => by first | (cases hj; done) | exact LeX.append _ _ _) ?_
  have cz : ¬ (x = 0 ∨ y = 0) := by omega
  rw [if_neg cz]
  refine br_intro (fun c => ?_) (fun c => ?_)
  · have c : x = y := by simpa using c
    exact And.intro (fin_i (by simp [c])) rfl
  · have c : ¬ x = y := by simpa using c
    exact And.intro (fin_i (by simp [c])) rfl

theorem widthR2_15 (d : DescD) (f : FormD) (w a b : Int) (ha : I64 a) (hb : I64 b) {k0 : T} {x : Int} (hk0 : IsTerm k0) (hx0 : 0 ≤ x ∧ x ≤ 128)
    (hr0 : Runs Tryz.prog 10 [descT d, formT f, k0] (.t (.int .i64 x))) {k1 : T} {y : Int} (hk1 : IsTerm k1) (hx1 : 0 ≤ y ∧ y ≤ 128)
    (hr1 : Runs Tryz.prog 10 [descT d, formT f, k1] (.t (.int .i64 y))) :
    Runs Tryz.prog 10 [descT d, formT f, .agg [.int .i64 15, .int .i64 w, .int .i64 a, .int .i64 b, .vecd 5 [k0, k1]]] (.t (.int .i64 (wid2 15 x y))) := by
  cases hk0 with | mk o0 w0 a0 b0 s0 _ _ _ _ _ _ =>
  cases hk1 with | mk o1 w1 a1 b1 s1 _ _ _ _ _ _ =>
  have e : wid2 15 x y = if x = 0 ∨ y = 0 then 0 else (if x = y then 1 else 0) := by unfold wid2; simp
  rw [e]
  refine Runs.of_call ?_ rfl
  refine CallS.of_fn tabS_ok regS_ok Tryz.func10 rfl rfl ?_
  refine loop_un 3 ?_
  refine CallS.frzG hr0 rfl ⟨.refl _, .refl _, .refl _, trivial⟩ ?_
  refine br_intro (fun c => ?_) (fun c0 => ?_)
  · have c : x = 0 := by simpa using c
    exact And.intro (fin_i (if_pos (by omega)).symm) rfl
  have c0 : ¬ x = 0 := by simpa using c0
  refine CallS.frzG hr1 rfl ⟨.refl _, .refl _, .refl _, trivial⟩ ?_
  refine br_intro (fun c => ?_) (fun c1 => ?_)
  · have c : y = 0 := by simpa using c
    exact And.intro (fin_i (if_pos (by omega)).symm) rfl
  have c1 : ¬ y = 0 := by simpa using c1
  refine draw_introS ord_10_12 (by decide +kernel) ?_
  refine And.intro (fun j hj => by first | (cases hj; done) | exact LeX.append _ _ _) ?_
  refine And.intro (fun j hj => by first | (cases hj; done) | exact LeX.append _ _ _) ?_
  have cz : ¬ (x = 0 ∨ y = 0) := by omega
  rw [if_neg cz]
  refine br_intro (fun c => ?_) (fun c => ?_)
  · have c : x = y := by simpa using c
    exact And.intro (fin_i (by simp [c])) rfl
  · have c : ¬ x = y := by simpa using c
    exact And.intro (fin_i (by simp [c])) rfl

theorem widthR2_16 (d : DescD) (f : FormD) (w a b : Int) (ha : I64 a) (hb : I64 b) {k0 : T} {x : Int} (hk0 : IsTerm k0) (hx0 : 0 ≤ x ∧ x ≤ 128)
    (hr0 : Runs Tryz.prog 10 [descT d, formT f, k0] (.t (.int .i64 x))) {k1 : T} {y : Int} (hk1 : IsTerm k1) (hx1 : 0 ≤ y ∧ y ≤ 128)
    (hr1 : Runs Tryz.prog 10 [descT d, formT f, k1] (.t (.int .i64 y))) :
    Runs Tryz.prog 10 [descT d, formT f, .agg [.int .i64 16, .int .i64 w, .int .i64 a, .int .i64 b, .vecd 5 [k0, k1]]] (.t (.int .i64 (wid2 16 x y))) := by
  cases hk0 with | mk o0 w0 a0 b0 s0 _ _ _ _ _ _ =>
  cases hk1 with | mk o1 w1 a1 b1 s1 _ _ _ _ _ _ =>
  have e : wid2 16 x y = if x = 0 ∨ y = 0 then 0 else (if x = y then 1 else 0) := by unfold wid2; simp
  rw [e]
  refine Runs.of_call ?_ rfl
  refine CallS.of_fn tabS_ok regS_ok Tryz.func10 rfl rfl ?_
  refine loop_un 3 ?_
  refine CallS.frzG hr0 rfl ⟨.refl _, .refl _, .refl _, trivial⟩ ?_
  refine br_intro (fun c => ?_) (fun c0 => ?_)
  · have c : x = 0 := by simpa using c
    exact And.intro (fin_i (if_pos (by omega)).symm) rfl
  have c0 : ¬ x = 0 := by simpa using c0
  refine CallS.frzG hr1 rfl ⟨.refl _, .refl _, .refl _, trivial⟩ ?_
  refine br_intro (fun c => ?_) (fun c1 => ?_)
  · have c : y = 0 := by simpa using c
    exact And.intro (fin_i (if_pos (by omega)).symm) rfl
  have c1 : ¬ y = 0 := by simpa using c1
  refine draw_introS ord_10_12 (by decide +kernel) ?_
  refine And.intro (fun j hj => by first | (cases hj; done) | exact LeX.append _ _ _) ?_
  refine And.intro (fun j hj => by first | (cases hj; done) | exact LeX.append _ _ _) ?_
  have cz : ¬ (x = 0 ∨ y = 0) := by omega
  rw [if_neg cz]
  refine br_intro (fun c => ?_) (fun c => ?_)
  · have c : x = y := by simpa using c
    exact And.intro (fin_i (by simp [c])) rfl
  · have c : ¬ x = y := by simpa using c
    exact And.intro (fin_i (by simp [c])) rfl

theorem widthR2_17 (d : DescD) (f : FormD) (w a b : Int) (ha : I64 a) (hb : I64 b) {k0 : T} {x : Int} (hk0 : IsTerm k0) (hx0 : 0 ≤ x ∧ x ≤ 128)
    (hr0 : Runs Tryz.prog 10 [descT d, formT f, k0] (.t (.int .i64 x))) {k1 : T} {y : Int} (hk1 : IsTerm k1) (hx1 : 0 ≤ y ∧ y ≤ 128)
    (hr1 : Runs Tryz.prog 10 [descT d, formT f, k1] (.t (.int .i64 y))) :
    Runs Tryz.prog 10 [descT d, formT f, .agg [.int .i64 17, .int .i64 w, .int .i64 a, .int .i64 b, .vecd 5 [k0, k1]]] (.t (.int .i64 (wid2 17 x y))) := by
  cases hk0 with | mk o0 w0 a0 b0 s0 _ _ _ _ _ _ =>
  cases hk1 with | mk o1 w1 a1 b1 s1 _ _ _ _ _ _ =>
  have e : wid2 17 x y = if x = 0 ∨ y = 0 then 0 else (if x + y ≤ 128 then x + y else 0) := by unfold wid2; simp
  rw [e]
  refine Runs.of_call ?_ rfl
  refine CallS.of_fn tabS_ok regS_ok Tryz.func10 rfl rfl ?_
  refine loop_un 3 ?_
  refine CallS.frzG hr0 rfl ⟨.refl _, .refl _, .refl _, trivial⟩ ?_
  refine br_intro (fun c => ?_) (fun c0 => ?_)
  · have c : x = 0 := by simpa using c
    exact And.intro (fin_i (if_pos (by omega)).symm) rfl
  have c0 : ¬ x = 0 := by simpa using c0
  refine CallS.frzG hr1 rfl ⟨.refl _, .refl _, .refl _, trivial⟩ ?_
  refine br_intro (fun c => ?_) (fun c1 => ?_)
  · have c : y = 0 := by simpa using c
    exact And.intro (fin_i (if_pos (by omega)).symm) rfl
  have c1 : ¬ y = 0 := by simpa using c1
  refine draw_introS ord_10_12 (by decide +kernel) ?_
  refine And.intro (fun j hj => by first | (cases hj; done) | exact LeX.append _ _ _) ?_
  refine And.intro (fun j hj => by first | (cases hj; done) | exact LeX.append _ _ _) ?_
  have cz : ¬ (x = 0 ∨ y = 0) := by omega
  rw [if_neg cz]
  refine st_intro (i64_int (n := x + y) (by omega) (by omega)) ?_
  refine br_intro (fun c => ?_) (fun c => ?_)
  · have c : x + y ≤ 128 := by simpa using c
    refine st_intro (i64_int (n := x + y) (by omega) (by omega)) ?_
    exact And.intro (fin_i (by simp [c])) rfl
  · have c : ¬ x + y ≤ 128 := by simpa using c
    exact And.intro (fin_i (by simp [c])) rfl

theorem widthR3_27 (d : DescD) (f : FormD) (w a b : Int) (ha : I64 a) (hb : I64 b) {k0 : T} {x : Int} (hk0 : IsTerm k0) (hx0 : 0 ≤ x ∧ x ≤ 128)
    (hr0 : Runs Tryz.prog 10 [descT d, formT f, k0] (.t (.int .i64 x))) {k1 : T} {y : Int} (hk1 : IsTerm k1) (hx1 : 0 ≤ y ∧ y ≤ 128)
    (hr1 : Runs Tryz.prog 10 [descT d, formT f, k1] (.t (.int .i64 y))) {k2 : T} {z : Int} (hk2 : IsTerm k2) (hx2 : 0 ≤ z ∧ z ≤ 128)
    (hr2 : Runs Tryz.prog 10 [descT d, formT f, k2] (.t (.int .i64 z))) :
    Runs Tryz.prog 10 [descT d, formT f, .agg [.int .i64 27, .int .i64 w, .int .i64 a, .int .i64 b, .vecd 5 [k0, k1, k2]]] (.t (.int .i64 (wid3 27 x y z))) := by
  cases hk0 with | mk o0 w0 a0 b0 s0 _ _ _ _ _ _ =>
  cases hk1 with | mk o1 w1 a1 b1 s1 _ _ _ _ _ _ =>
  cases hk2 with | mk o2 w2 a2 b2 s2 _ _ _ _ _ _ =>
  have e : wid3 27 x y z = if x = 0 ∨ y = 0 ∨ z = 0 then 0 else (if x = 1 ∧ y = z then y else 0) := by unfold wid3; simp
  rw [e]
  refine Runs.of_call ?_ rfl
  refine CallS.of_fn tabS_ok regS_ok Tryz.func10 rfl rfl ?_
  refine loop_un 4 ?_
  refine CallS.frzG hr0 rfl ⟨.refl _, .refl _, .refl _, trivial⟩ ?_
  refine br_intro (fun c => ?_) (fun c0 => ?_)
  · have c : x = 0 := by simpa using c
    exact And.intro (fin_i (if_pos (by omega)).symm) rfl
  have c0 : ¬ x = 0 := by simpa using c0
  refine CallS.frzG hr1 rfl ⟨.refl _, .refl _, .refl _, trivial⟩ ?_
  refine br_intro (fun c => ?_) (fun c1 => ?_)
  · have c : y = 0 := by simpa using c
    exact And.intro (fin_i (if_pos (by omega)).symm) rfl
  have c1 : ¬ y = 0 := by simpa using c1
  refine CallS.frzG hr2 rfl ⟨.refl _, .refl _, .refl _, trivial⟩ ?_
  refine br_intro (fun c => ?_) (fun c2 => ?_)
  · have c : z = 0 := by simpa using c
    exact And.intro (fin_i (if_pos (by omega)).symm) rfl
  have c2 : ¬ z = 0 := by simpa using c2
  refine draw_introS ord_10_12 (by decide +kernel) ?_
  refine And.intro (fun j hj => by first | (cases hj; done) | exact LeX.append _ _ _) ?_
  refine And.intro (fun j hj => by first | (cases hj; done) | exact LeX.append _ _ _) ?_
  have cz : ¬ (x = 0 ∨ y = 0 ∨ z = 0) := by omega
  rw [if_neg cz]
  refine br_intro (fun q1 => ?_) (fun q1 => ?_)
  · have q1 : x = 1 := by simpa using q1
    refine br_intro (fun q2 => ?_) (fun q2 => ?_)
    · have q2 : y = z := by simpa using q2
      exact And.intro (fin_i (by simp [q1, q2])) rfl
    · have q2 : ¬ y = z := by simpa using q2
      exact And.intro (fin_i (by simp [q2])) rfl
  · have q1 : ¬ x = 1 := by simpa using q1
    exact And.intro (fin_i (by simp [q1])) rfl

end Go.Proofs.YthccmdcanjihkaaGreatDoor
