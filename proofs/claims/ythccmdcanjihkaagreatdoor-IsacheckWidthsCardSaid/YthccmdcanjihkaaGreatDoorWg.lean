/-
  Any term's width: the program and the document agree.
-/
import Derived.Test.YthccmdcanjihkaaGreatDoorWf
import Derived.Test.YthccmdcanjihkaaGreatDoorGIs
namespace Go.Proofs.YthccmdcanjihkaaGreatDoor
open Go.IntWalk
set_option maxRecDepth 100000
set_option linter.unusedVariables false
set_option linter.unusedSimpArgs false

theorem wid0_range (d : DescD) (f : FormD) (op w a b : Int) : 0 ≤ wid0 d f op w a b ∧ wid0 d f op w a b ≤ 128 := by
  have hr := regW_range d f a b
  unfold wid0 wideP
  repeat' split
  all_goals omega
theorem wid1_range {op w a b x : Int} (hx : 0 ≤ x ∧ x ≤ 128) : 0 ≤ wid1 op w a b x ∧ wid1 op w a b x ≤ 128 := by
  unfold wid1 wideP memP
  repeat' split
  all_goals omega
theorem wid2_range {op x y : Int} (hx : 0 ≤ x ∧ x ≤ 128) (hy : 0 ≤ y ∧ y ≤ 128) : 0 ≤ wid2 op x y ∧ wid2 op x y ≤ 128 := by
  unfold wid2
  repeat' split
  all_goals omega
theorem wid3_range {op x y z : Int} (hx : 0 ≤ x ∧ x ≤ 128) (hy : 0 ≤ y ∧ y ≤ 128) : 0 ≤ wid3 op x y z ∧ wid3 op x y z ≤ 128 := by
  unfold wid3
  repeat' split
  all_goals omega

theorem widthR_long (d : DescD) (f : FormD) (op w a b : Int) (k0 k1 k2 k3 : T) (ks : List T) : Runs Tryz.prog 10 [descT d, formT f, .agg [.int .i64 op, .int .i64 w, .int .i64 a, .int .i64 b, .vecd 5 (k0 :: k1 :: k2 :: k3 :: ks)]] (.t (.int .i64 0)) := by
  refine Runs.of_call ?_ rfl
  refine CallS.of_fn tabS_ok regS_ok Tryz.func10 rfl rfl ?_
  refine br_intro (fun c => ?_) (fun c => ?_)
  · exact And.intro rfl rfl
  · have c := df c
    simp at c
    omega

theorem width_both (d : DescD) (f : FormD) {t : T} (h : IsTerm t) : ∃ v : Int, (0 ≤ v ∧ v ≤ 128) ∧ Runs Tryz.prog 28 [descT d, formT f, t] (.t (.int .i64 v)) ∧
    Runs Tryz.prog 10 [descT d, formT f, t] (.t (.int .i64 v)) := by
  induction h with
  | mk op w a b ks ho hw ha hb hl hks ih =>
    match ks, hks, ih with
    | [], _, _ =>
      refine ⟨wid0 d f op w a b, wid0_range .., width0 d f op w a b hb, ?_⟩
      by_cases hk : kidsN op = 0
      · rcases kidsN_0 hk with rfl | rfl | rfl | rfl | rfl | rfl
        · exact widthR0_20 d f w a b ha hb
        · exact widthR0_21 d f w a b ha hb
        · exact widthR0_22 d f w a b ha hb
        · exact widthR0_23 d f w a b ha hb
        · exact widthR0_24 d f w a b ha hb
        · exact widthR0_25 d f w a b ha hb
      · rw [wid0_no hk]; exact widthR0_no d f op w a b hk
    | [k0], hks, ih =>
      obtain ⟨x, hx, rx, qx⟩ := ih k0 (by simp)
      have h0 := hks k0 (by simp)
      refine ⟨wid1 op w a b x, wid1_range hx, ?_⟩
      by_cases hk : kidsN op = 1
      · rcases kidsN_1 hk with rfl | rfl | rfl | rfl | rfl | rfl
        · exact ⟨width1_18 d f w a b ha hb h0 hx rx, widthR1_18 d f w a b ha hb h0 hx qx⟩
        · exact ⟨width1_19 d f w a b ha hb h0 hx rx, widthR1_19 d f w a b ha hb h0 hx qx⟩
        · exact ⟨width1_26 d f w a b ha hb h0 hx rx, widthR1_26 d f w a b ha hb h0 hx qx⟩
        · exact ⟨width1_28 d f w a b ha hb h0 hx rx, widthR1_28 d f w a b ha hb h0 hx qx⟩
        · exact ⟨width1_29 d f w a b ha hb h0 hx rx, widthR1_29 d f w a b ha hb h0 hx qx⟩
        · exact ⟨width1_30 d f w a b ha hb h0 hx rx, widthR1_30 d f w a b ha hb h0 hx qx⟩
      · rw [wid1_no hk]; exact ⟨width_no d f op w a b [k0] hk, widthR1_no d f op w a b hk h0 hx qx⟩
    | [k0, k1], hks, ih =>
      obtain ⟨x, hx, rx, qx⟩ := ih k0 (by simp)
      obtain ⟨y, hy, ry, qy⟩ := ih k1 (by simp)
      have h0 := hks k0 (by simp)
      have h1 := hks k1 (by simp)
      refine ⟨wid2 op x y, wid2_range hx hy, ?_⟩
      by_cases hk : kidsN op = 2
      · rcases kidsN_2 hk with rfl | rfl | rfl | rfl | rfl | rfl | rfl | rfl | rfl | rfl | rfl | rfl | rfl | rfl | rfl | rfl | rfl
        · exact ⟨width2_1 d f w a b ha hb h0 hx rx h1 hy ry, widthR2_1 d f w a b ha hb h0 hx qx h1 hy qy⟩
        · exact ⟨width2_2 d f w a b ha hb h0 hx rx h1 hy ry, widthR2_2 d f w a b ha hb h0 hx qx h1 hy qy⟩
        · exact ⟨width2_3 d f w a b ha hb h0 hx rx h1 hy ry, widthR2_3 d f w a b ha hb h0 hx qx h1 hy qy⟩
        · exact ⟨width2_4 d f w a b ha hb h0 hx rx h1 hy ry, widthR2_4 d f w a b ha hb h0 hx qx h1 hy qy⟩
        · exact ⟨width2_5 d f w a b ha hb h0 hx rx h1 hy ry, widthR2_5 d f w a b ha hb h0 hx qx h1 hy qy⟩
        · exact ⟨width2_6 d f w a b ha hb h0 hx rx h1 hy ry, widthR2_6 d f w a b ha hb h0 hx qx h1 hy qy⟩
        · exact ⟨width2_7 d f w a b ha hb h0 hx rx h1 hy ry, widthR2_7 d f w a b ha hb h0 hx qx h1 hy qy⟩
        · exact ⟨width2_8 d f w a b ha hb h0 hx rx h1 hy ry, widthR2_8 d f w a b ha hb h0 hx qx h1 hy qy⟩
        · exact ⟨width2_9 d f w a b ha hb h0 hx rx h1 hy ry, widthR2_9 d f w a b ha hb h0 hx qx h1 hy qy⟩
        · exact ⟨width2_10 d f w a b ha hb h0 hx rx h1 hy ry, widthR2_10 d f w a b ha hb h0 hx qx h1 hy qy⟩
        · exact ⟨width2_11 d f w a b ha hb h0 hx rx h1 hy ry, widthR2_11 d f w a b ha hb h0 hx qx h1 hy qy⟩
        · exact ⟨width2_12 d f w a b ha hb h0 hx rx h1 hy ry, widthR2_12 d f w a b ha hb h0 hx qx h1 hy qy⟩
        · exact ⟨width2_13 d f w a b ha hb h0 hx rx h1 hy ry, widthR2_13 d f w a b ha hb h0 hx qx h1 hy qy⟩
        · exact ⟨width2_14 d f w a b ha hb h0 hx rx h1 hy ry, widthR2_14 d f w a b ha hb h0 hx qx h1 hy qy⟩
        · exact ⟨width2_15 d f w a b ha hb h0 hx rx h1 hy ry, widthR2_15 d f w a b ha hb h0 hx qx h1 hy qy⟩
        · exact ⟨width2_16 d f w a b ha hb h0 hx rx h1 hy ry, widthR2_16 d f w a b ha hb h0 hx qx h1 hy qy⟩
        · exact ⟨width2_17 d f w a b ha hb h0 hx rx h1 hy ry, widthR2_17 d f w a b ha hb h0 hx qx h1 hy qy⟩
      · rw [wid2_no hk]; exact ⟨width_no d f op w a b [k0, k1] hk, widthR2_no d f op w a b hk h0 hx qx h1 hy qy⟩
    | [k0, k1, k2], hks, ih =>
      obtain ⟨x, hx, rx, qx⟩ := ih k0 (by simp)
      obtain ⟨y, hy, ry, qy⟩ := ih k1 (by simp)
      obtain ⟨z, hz, rz, qz⟩ := ih k2 (by simp)
      have h0 := hks k0 (by simp)
      have h1 := hks k1 (by simp)
      have h2 := hks k2 (by simp)
      refine ⟨wid3 op x y z, wid3_range hx hy, ?_⟩
      by_cases hk : kidsN op = 3
      · obtain rfl := kidsN_3 hk
        exact ⟨width3_27 d f w a b ha hb h0 hx rx h1 hy ry h2 hz rz, widthR3_27 d f w a b ha hb h0 hx qx h1 hy qy h2 hz qz⟩
      · rw [wid3_no hk]; exact ⟨width_no d f op w a b [k0, k1, k2] hk, widthR3_no d f op w a b hk h0 hx qx h1 hy qy h2 hz qz⟩
    | k0 :: k1 :: k2 :: k3 :: ks, hks, ih =>
      have := kidsN_le op
      exact ⟨0, by omega, width_no d f op w a b _ (by simp only [List.length_cons]; omega), widthR_long d f op w a b k0 k1 k2 k3 ks⟩

theorem width_top (d : DescD) (form : Int) {t : T} (ht : IsTerm t) (h : ¬ (0 ≤ form ∧ form < d.forms.length)) : Runs Tryz.prog 9 [descT d, .int .i64 form, t] (.t (.int .i64 0)) := by
  cases ht with | mk o w a b s _ _ _ _ _ _ =>
  refine Runs.of_call ?_ rfl
  refine CallS.of_fn tabS_ok regS_ok Tryz.func9 rfl rfl ?_
  refine CallS.pure (among_runs form (d.forms.map formT).length) rfl ?_
  refine br_intro (fun c => ?_) (fun c => ?_)
  · exact And.intro rfl rfl
  · exact absurd (am1 (nf c)) h

theorem width_at (d : DescD) (form : Int) {t : T} (ht : IsTerm t) {f : FormD} (h : 0 ≤ form ∧ form < d.forms.length) (hf : d.forms[form.toNat]? = some f) {v : Int}
    (hv : Runs Tryz.prog 28 [descT d, formT f, t] (.t (.int .i64 v))) : Runs Tryz.prog 9 [descT d, .int .i64 form, t] (.t (.int .i64 v)) := by
  cases ht with | mk o w a b s _ _ _ _ _ _ =>
  refine Runs.of_call ?_ rfl
  refine CallS.of_fn tabS_ok regS_ok Tryz.func9 rfl rfl ?_
  refine CallS.pure (among_runs form (d.forms.map formT).length) rfl ?_
  refine br_intro (fun c => ?_) (fun c => ?_)
  · exact absurd h (am0 (nb' c))
  refine draw_introS ord_9_3 (by decide +kernel) ?_
  refine ck_intro (ix0 rfl h.1) ?_
  refine opt_intro (row_get hf) ?_
  refine CallS.frzG hv rfl ⟨.refl _, .refl _, .refl _, trivial⟩ ?_
  refine And.intro (fun j hj => by first | (cases hj; done) | exact LeX.append _ _ _) ?_
  refine And.intro (fun j hj => by first | (cases hj; done) | exact LeX.append _ _ _) ?_
  exact And.intro rfl rfl

theorem widthsRuns (d : DescD) (form : Int) {t : T} (ht : IsTerm t) : Runs Tryz.prog 4 [descT d, .int .i64 form, t] (.t (.bool true)) := by
  have ht0 := ht
  by_cases h : 0 ≤ form ∧ form < d.forms.length
  · obtain ⟨f, f1, f2, f3⟩ := at_some h
    obtain ⟨v, hv, r1, r2⟩ := width_both d f ht
    have r0 := width_at d form ht0 h f3 r1
    cases ht with | mk o w a b s _ _ _ _ _ _ =>
    refine Runs.of_call ?_ rfl
    refine CallS.of_fn tabS_ok regS_ok Tryz.func4 rfl rfl ?_
    refine CallS.pure isacheckAlive_runs rfl ?_
    refine CallS.frzG r0 rfl ⟨.refl _, .refl _, .refl _, trivial⟩ ?_
    refine br_intro (fun c => ?_) (fun c => ?_)
    · exact absurd h.1 (by have := dt c; omega)
    refine br_intro (fun c => ?_) (fun c => ?_)
    · exact absurd h.2 (by have := dt c; simp at this; omega)
    refine draw_introS ord_4_6 (by decide +kernel) ?_
    refine ck_intro (ix0 rfl h.1) ?_
    refine opt_intro (row_get f3) ?_
    refine CallS.frzG r2 rfl ⟨.refl _, .refl _, .refl _, trivial⟩ ?_
    refine And.intro (fun j hj => by first | (cases hj; done) | exact LeX.append _ _ _) ?_
    refine br_intro (fun q => ?_) (fun q => absurd q (by simp))
    refine br_intro (fun q1 => ?_) (fun q1 => absurd q1 (by simp; omega))
    refine And.intro (fun j hj => by first | (cases hj; done) | exact LeX.append _ _ _) ?_
    exact And.intro (congrArg (fun b => some (T.bool b)) (by simp; omega)) rfl
  · have r0 := width_top d form ht0 h
    cases ht with | mk o w a b s _ _ _ _ _ _ =>
    refine Runs.of_call ?_ rfl
    refine CallS.of_fn tabS_ok regS_ok Tryz.func4 rfl rfl ?_
    refine CallS.pure isacheckAlive_runs rfl ?_
    refine CallS.frzG r0 rfl ⟨.refl _, .refl _, .refl _, trivial⟩ ?_
    refine br_intro (fun c => ?_) (fun c => ?_)
    · exact And.intro rfl rfl
    refine br_intro (fun c1 => ?_) (fun c1 => ?_)
    · exact And.intro rfl rfl
    · have c := df c
      have c1 := df c1
      simp at c1
      omega

theorem widthsLaw (c0 : List T) (h0 : HasT Tryz.prog 33 c0) (c1 : List T) (h1 : HasT Tryz.prog 3 c1) (c2 : List T) (h2 : HasT Tryz.prog 47 c2) :
    Runs Tryz.prog 4 [argOf Tryz.prog 33 c0, argOf Tryz.prog 3 c1, argOf Tryz.prog 47 c2] (.t (.bool true)) := by
  obtain ⟨d, _, hd⟩ := desc_arg h0
  obtain ⟨n, e, _⟩ := int_arg h1
  obtain ⟨t, ht, hs⟩ := term_arg h2
  rw [e]
  exact (widthsRuns d n ht).sub ⟨hd, .refl _, hs, trivial⟩

end Go.Proofs.YthccmdcanjihkaaGreatDoor
