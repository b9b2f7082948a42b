/-
  Widths of terms: what they are, step by step, and the program's walk.
-/
import Derived.Test.YtnjmeadmkbkikaaGreatDoorWc
namespace Go.Proofs.YtnjmeadmkbkikaaGreatDoor
open Go.IntWalk
set_option maxRecDepth 100000
set_option linter.unusedVariables false
set_option linter.unusedSimpArgs false

/-- How many kids a term of an operation has. -/
def kidsN (op : Int) : Int :=
  if op = 20 ∨ op = 21 ∨ op = 22 ∨ op = 23 ∨ op = 24 ∨ op = 25 then 0
  else if op = 18 ∨ op = 19 ∨ op = 26 ∨ op = 28 ∨ op = 29 ∨ op = 30 then 1
  else if op = 27 then 3
  else if 1 ≤ op ∧ op ≤ 17 then 2 else -1

theorem kids_runs (op : Int) : Runs Tryz.prog 153 [.int .i64 op] (.t (.int .i64 (kidsN op))) := by
  by_cases h : 18 ≤ op ∧ op ≤ 30
  · have hc : op = 18 ∨ op = 19 ∨ op = 20 ∨ op = 21 ∨ op = 22 ∨ op = 23 ∨ op = 24 ∨ op = 25 ∨ op = 26 ∨ op = 27 ∨ op = 28 ∨ op = 29 ∨ op = 30 := by omega
    rcases hc with rfl | rfl | rfl | rfl | rfl | rfl | rfl | rfl | rfl | rfl | rfl | rfl | rfl <;>
    · refine Runs.of_call ?_ rfl
      refine CallS.of_fn tabS_ok regS_ok Tryz.func153 rfl rfl ?_
      exact And.intro rfl rfl
  · have e20 : (op == 20) = false := by simp; omega
    have e21 : (op == 21) = false := by simp; omega
    have e22 : (op == 22) = false := by simp; omega
    have e23 : (op == 23) = false := by simp; omega
    have e24 : (op == 24) = false := by simp; omega
    have e25 : (op == 25) = false := by simp; omega
    have e18 : (op == 18) = false := by simp; omega
    have e19 : (op == 19) = false := by simp; omega
    have e26 : (op == 26) = false := by simp; omega
    have e27 : (op == 27) = false := by simp; omega
    have e28 : (op == 28) = false := by simp; omega
    have e29 : (op == 29) = false := by simp; omega
    have e30 : (op == 30) = false := by simp; omega
    have ek : kidsN op = if 1 ≤ op ∧ op ≤ 17 then 2 else -1 := by unfold kidsN; rw [if_neg (by omega), if_neg (by omega), if_neg (by omega)]
    refine Runs.of_call ?_ rfl
    refine CallS.of_fn tabS_ok regS_ok Tryz.func153 rfl rfl ?_
    refine br_intro (fun c => absurd (e20.symm.trans c) (by decide)) (fun c20 => ?_)
    refine br_intro (fun c => absurd (e21.symm.trans c) (by decide)) (fun c21 => ?_)
    refine br_intro (fun c => absurd (e22.symm.trans c) (by decide)) (fun c22 => ?_)
    refine br_intro (fun c => absurd (e23.symm.trans c) (by decide)) (fun c23 => ?_)
    refine br_intro (fun c => absurd (e24.symm.trans c) (by decide)) (fun c24 => ?_)
    refine br_intro (fun c => absurd (e25.symm.trans c) (by decide)) (fun c25 => ?_)
    refine br_intro (fun c => absurd (e18.symm.trans c) (by decide)) (fun c18 => ?_)
    refine br_intro (fun c => absurd (e19.symm.trans c) (by decide)) (fun c19 => ?_)
    refine br_intro (fun c => absurd (e26.symm.trans c) (by decide)) (fun c26 => ?_)
    refine br_intro (fun c => absurd (e28.symm.trans c) (by decide)) (fun c28 => ?_)
    refine br_intro (fun c => absurd (e29.symm.trans c) (by decide)) (fun c29 => ?_)
    refine br_intro (fun c => absurd (e30.symm.trans c) (by decide)) (fun c30 => ?_)
    refine br_intro (fun c => absurd (e27.symm.trans c) (by decide)) (fun c27 => ?_)
    rw [ek]
    refine br_intro (fun c1 => ?_) (fun c1 => ?_)
    · refine br_intro (fun c2 => ?_) (fun c2 => ?_)
      · exact And.intro (fin_i (if_pos ⟨dt c1, dt c2⟩).symm) rfl
      · exact And.intro (fin_i (if_neg fun h => df c2 h.2).symm) rfl
    · exact And.intro (fin_i (if_neg fun h => df c1 h.1).symm) rfl

/-- A term's width, by its kids' widths. -/
def wid0 (d : DescD) (f : FormD) (op w a b : Int) : Int :=
  if op = 20 then (if wideP w then w else 0)
  else if op = 21 then regW d f a b
  else if op = 22 then (match at? f.args a with
    | none => 0
    | some g => match at? d.classes g.cls with
      | none => 0
      | some k => if wideP w ∧ k.kind ≠ 1 then w else 0)
  else if op = 23 ∨ op = 24 then 64
  else if op = 25 then (if 0 ≤ a ∧ a < d.flags.length then 1 else 0)
  else 0

theorem kidsN_0 {op : Int} (h : kidsN op = 0) : op = 20 ∨ op = 21 ∨ op = 22 ∨ op = 23 ∨ op = 24 ∨ op = 25 := by
  unfold kidsN at h
  repeat' split at h
  all_goals omega

theorem wid0_no {d : DescD} {f : FormD} {op w a b : Int} (h : kidsN op ≠ 0) : wid0 d f op w a b = 0 := by
  unfold kidsN at h
  have h : ¬ (op = 20 ∨ op = 21 ∨ op = 22 ∨ op = 23 ∨ op = 24 ∨ op = 25) := fun q => h (if_pos q)
  unfold wid0
  rw [if_neg (by omega), if_neg (by omega), if_neg (by omega), if_neg (by omega), if_neg (by omega)]

theorem bne_z {a b : Int} (h : a ≠ b) : (a != b) = true := by simpa using h

theorem width0 (d : DescD) (f : FormD) (op w a b : Int) (hb : I64 b) : Runs Tryz.prog 103 [descT d, formT f, .agg [.int .i64 op, .int .i64 w, .int .i64 a, .int .i64 b, .vecd 5 []]] (.t (.int .i64 (wid0 d f op w a b))) := by
  by_cases hk : kidsN op = 0
  · rcases kidsN_0 hk with rfl | rfl | rfl | rfl | rfl | rfl
    · have e : wid0 d f 20 w a b = if wideP w then w else 0 := rfl
      rw [e]
      refine Runs.of_call ?_ rfl
      refine CallS.of_fn tabS_ok regS_ok Tryz.func103 rfl rfl ?_
      refine draw_introS ord_28_1 (by decide +kernel) ?_
      refine CallS.pure (show Runs _ _ _ (.t (.int .i64 0)) from kids_runs 20) rfl ?_
      refine And.intro (fun j hj => by first | (cases hj; done) | exact LeX.append _ _ _) ?_
      refine loop_un 1 ?_
      refine draw_introS ord_28_27 (by decide +kernel) ?_
      refine CallS.pure (bits128_runs w) rfl ?_
      refine And.intro (fun j hj => by first | (cases hj; done) | exact LeX.append _ _ _) ?_
      refine CallS.pure (given_runs _ _) rfl ?_
      refine And.intro (fun j hj => by first | (cases hj; done) | exact LeX.append _ _ _) ?_
      refine And.intro (fun j hj => by first | (cases hj; done) | exact LeX.append _ _ _) ?_
      exact And.intro (fin_i (by simp)) rfl
    · have e : wid0 d f 21 w a b = regW d f a b := rfl
      rw [e]
      refine Runs.of_call ?_ rfl
      refine CallS.of_fn tabS_ok regS_ok Tryz.func103 rfl rfl ?_
      refine draw_introS ord_28_1 (by decide +kernel) ?_
      refine CallS.pure (show Runs _ _ _ (.t (.int .i64 0)) from kids_runs 21) rfl ?_
      refine And.intro (fun j hj => by first | (cases hj; done) | exact LeX.append _ _ _) ?_
      refine loop_un 1 ?_
      refine CallS.frzG (register_runs d f 21 w a b [] hb) rfl ⟨.refl _, .refl _, .refl _, trivial⟩ ?_
      exact And.intro rfl rfl
    · have e : wid0 d f 22 w a b = (match at? f.args a with
        | none => 0
        | some g => match at? d.classes g.cls with
          | none => 0
          | some k => if wideP w ∧ k.kind ≠ 1 then w else 0) := rfl
      rw [e]
      refine Runs.of_call ?_ rfl
      refine CallS.of_fn tabS_ok regS_ok Tryz.func103 rfl rfl ?_
      refine draw_introS ord_28_1 (by decide +kernel) ?_
      refine CallS.pure (show Runs _ _ _ (.t (.int .i64 0)) from kids_runs 22) rfl ?_
      refine And.intro (fun j hj => by first | (cases hj; done) | exact LeX.append _ _ _) ?_
      refine loop_un 1 ?_
      refine draw_introS ord_28_31 (by decide +kernel) ?_
      refine CallS.pure (among_runs _ _) rfl ?_
      refine And.intro (fun j hj => by first | (cases hj; done) | exact LeX.append _ _ _) ?_
      refine br_intro (fun c1 => ?_) (fun c1 => ?_)
      · have h1 := am1 c1
        obtain ⟨g, g1, g2, g3⟩ := at_some h1
        rw [g1]
        refine ck_intro (ix0 rfl h1.1) ?_
        refine opt_intro (row_get g3) ?_
        refine CallS.pure (among_runs _ _) rfl ?_
        refine And.intro (fun j hj => by first | (cases hj; done) | exact LeX.append _ _ _) ?_
        refine And.intro (fun j hj => by first | (cases hj; done) | exact LeX.append _ _ _) ?_
        refine draw_introS ord_28_32 (by decide +kernel) ?_
        refine br_intro (fun c2 => ?_) (fun c2 => ?_)
        · have h2 := am1 c2
          obtain ⟨k, k1, k2, k3⟩ := at_some h2
          refine CallS.pure (bits128_runs w) rfl ?_
          refine And.intro (fun j hj => by first | (cases hj; done) | exact LeX.append _ _ _) ?_
          refine br_intro (fun c3 => ?_) (fun c3 => ?_)
          · refine ck_intro (ix0 rfl h1.1) ?_
            refine opt_intro (row_get g3) ?_
            refine ck_intro (ix0 rfl h2.1) ?_
            refine opt_intro (row_get k3) ?_
            refine CallS.pure (given_runs _ _) rfl ?_
            refine And.intro (fun j hj => by first | (cases hj; done) | exact LeX.append _ _ _) ?_
            refine And.intro (fun j hj => by first | (cases hj; done) | exact LeX.append _ _ _) ?_
            exact And.intro (fin_i (by simp only [k1]; have c3 : wideP w := by simpa using c3
                                       simp [c3])) rfl
          · refine CallS.pure (given_runs _ _) rfl ?_
            refine And.intro (fun j hj => by first | (cases hj; done) | exact LeX.append _ _ _) ?_
            refine And.intro (fun j hj => by first | (cases hj; done) | exact LeX.append _ _ _) ?_
            exact And.intro (fin_i (by simp only [k1]; have c3 : ¬ wideP w := by simpa using c3
                                       simp [c3])) rfl
        · have h2 := at_none (am0 c2)
          refine And.intro (fun j hj => by first | (cases hj; done) | exact LeX.append _ _ _) ?_
          refine CallS.pure (given_runs _ _) rfl ?_
          refine And.intro (fun j hj => by first | (cases hj; done) | exact LeX.append _ _ _) ?_
          refine And.intro (fun j hj => by first | (cases hj; done) | exact LeX.append _ _ _) ?_
          exact And.intro (fin_i (by simp only [h2]; simp)) rfl
      · have h1 := at_none (am0 c1)
        refine And.intro (fun j hj => by first | (cases hj; done) | exact LeX.append _ _ _) ?_
        refine And.intro (fun j hj => by first | (cases hj; done) | exact LeX.append _ _ _) ?_
        refine draw_introS ord_28_32 (by decide +kernel) ?_
        refine And.intro (fun j hj => by first | (cases hj; done) | exact LeX.append _ _ _) ?_
        refine CallS.pure (given_runs _ _) rfl ?_
        refine And.intro (fun j hj => by first | (cases hj; done) | exact LeX.append _ _ _) ?_
        refine And.intro (fun j hj => by first | (cases hj; done) | exact LeX.append _ _ _) ?_
        exact And.intro (fin_i (by rw [h1]; simp)) rfl
    · have e : wid0 d f 23 w a b = 64 := rfl
      rw [e]
      refine Runs.of_call ?_ rfl
      refine CallS.of_fn tabS_ok regS_ok Tryz.func103 rfl rfl ?_
      refine draw_introS ord_28_1 (by decide +kernel) ?_
      refine CallS.pure (show Runs _ _ _ (.t (.int .i64 0)) from kids_runs 23) rfl ?_
      refine And.intro (fun j hj => by first | (cases hj; done) | exact LeX.append _ _ _) ?_
      refine loop_un 1 ?_
      exact And.intro rfl rfl
    · have e : wid0 d f 24 w a b = 64 := rfl
      rw [e]
      refine Runs.of_call ?_ rfl
      refine CallS.of_fn tabS_ok regS_ok Tryz.func103 rfl rfl ?_
      refine draw_introS ord_28_1 (by decide +kernel) ?_
      refine CallS.pure (show Runs _ _ _ (.t (.int .i64 0)) from kids_runs 24) rfl ?_
      refine And.intro (fun j hj => by first | (cases hj; done) | exact LeX.append _ _ _) ?_
      refine loop_un 1 ?_
      exact And.intro rfl rfl
    · have e : wid0 d f 25 w a b = if 0 ≤ a ∧ a < d.flags.length then 1 else 0 := rfl
      rw [e]
      refine Runs.of_call ?_ rfl
      refine CallS.of_fn tabS_ok regS_ok Tryz.func103 rfl rfl ?_
      refine draw_introS ord_28_1 (by decide +kernel) ?_
      refine CallS.pure (show Runs _ _ _ (.t (.int .i64 0)) from kids_runs 25) rfl ?_
      refine And.intro (fun j hj => by first | (cases hj; done) | exact LeX.append _ _ _) ?_
      refine loop_un 1 ?_
      refine CallS.pure (among_runs _ _) rfl ?_
      refine CallS.pure (given_runs _ _) rfl ?_
      exact And.intro (fin_i (by simp)) rfl
  · rw [wid0_no hk]
    refine Runs.of_call ?_ rfl
    refine CallS.of_fn tabS_ok regS_ok Tryz.func103 rfl rfl ?_
    refine draw_introS ord_28_1 (by decide +kernel) ?_
    refine CallS.pure (kids_runs op) rfl ?_
    refine And.intro (fun j hj => by first | (cases hj; done) | exact LeX.append _ _ _) ?_
    refine br_intro (fun c => ?_) (fun c => absurd (c.symm.trans (bne_z hk)) (by decide))
    exact And.intro rfl rfl

end Go.Proofs.YtnjmeadmkbkikaaGreatDoor
