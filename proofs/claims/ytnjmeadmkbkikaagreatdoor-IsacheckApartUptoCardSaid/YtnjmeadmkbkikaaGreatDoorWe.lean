/-
  Widths of terms with kids: the program's walk.
-/
import Derived.Test.YtnjmeadmkbkikaaGreatDoorWd
namespace Go.Proofs.YtnjmeadmkbkikaaGreatDoor
open Go.IntWalk
set_option maxRecDepth 100000
set_option linter.unusedVariables false
set_option linter.unusedSimpArgs false

def wid1 (op w a b x : Int) : Int :=
  if x = 0 then 0
  else if op = 18 ∨ op = 19 then x
  else if op = 26 then (if memP w ∧ x = 64 then w else 0)
  else if op = 28 ∨ op = 29 then (if wideP w then w else 0)
  else if op = 30 then (if 0 ≤ b ∧ b ≤ a ∧ a < x then a - b + 1 else 0)
  else 0

def wid2 (op x y : Int) : Int :=
  if x = 0 ∨ y = 0 then 0
  else if op = 7 ∨ op = 8 ∨ op = 9 then x
  else if op = 14 ∨ op = 15 ∨ op = 16 then (if x = y then 1 else 0)
  else if op = 17 then (if x + y ≤ 128 then x + y else 0)
  else if 1 ≤ op ∧ op ≤ 13 then (if x = y then x else 0)
  else 0

def wid3 (op x y z : Int) : Int :=
  if x = 0 ∨ y = 0 ∨ z = 0 then 0
  else if op = 27 then (if x = 1 ∧ y = z then y else 0)
  else 0

theorem kidsN_1 {op : Int} (h : kidsN op = 1) : op = 18 ∨ op = 19 ∨ op = 26 ∨ op = 28 ∨ op = 29 ∨ op = 30 := by
  unfold kidsN at h
  repeat' split at h
  all_goals omega
theorem kidsN_2 {op : Int} (h : kidsN op = 2) : op = 1 ∨ op = 2 ∨ op = 3 ∨ op = 4 ∨ op = 5 ∨ op = 6 ∨ op = 7 ∨ op = 8 ∨ op = 9 ∨ op = 10 ∨ op = 11 ∨ op = 12 ∨ op = 13 ∨ op = 14 ∨ op = 15 ∨ op = 16 ∨ op = 17 := by
  unfold kidsN at h
  repeat' split at h
  all_goals omega
theorem kidsN_3 {op : Int} (h : kidsN op = 3) : op = 27 := by
  unfold kidsN at h
  repeat' split at h
  all_goals omega
theorem kidsN_le (op : Int) : kidsN op ≤ 3 := by
  unfold kidsN
  repeat' split
  all_goals omega
theorem wid1_no {op w a b x : Int} (h : kidsN op ≠ 1) : wid1 op w a b x = 0 := by
  unfold kidsN at h
  have h : ¬ (op = 18 ∨ op = 19 ∨ op = 26 ∨ op = 28 ∨ op = 29 ∨ op = 30) := fun q => h (by rw [if_neg (by omega), if_pos q])
  unfold wid1
  rw [if_neg (c := op = 18 ∨ op = 19) (by omega), if_neg (c := op = 26) (by omega), if_neg (c := op = 28 ∨ op = 29) (by omega), if_neg (c := op = 30) (by omega)]
  split <;> rfl
theorem wid2_no {op x y : Int} (h : kidsN op ≠ 2) : wid2 op x y = 0 := by
  unfold kidsN at h
  have h : ¬ (1 ≤ op ∧ op ≤ 17) := fun q => h (by rw [if_neg (by omega), if_neg (by omega), if_neg (by omega), if_pos q])
  unfold wid2
  rw [if_neg (c := op = 7 ∨ op = 8 ∨ op = 9) (by omega), if_neg (c := op = 14 ∨ op = 15 ∨ op = 16) (by omega), if_neg (c := op = 17) (by omega), if_neg (c := 1 ≤ op ∧ op ≤ 13) (by omega)]
  split <;> rfl
theorem wid3_no {op x y z : Int} (h : kidsN op ≠ 3) : wid3 op x y z = 0 := by
  have h : ¬ op = 27 := fun q => h (by rw [q]; rfl)
  unfold wid3
  rw [if_neg h]
  split <;> rfl

theorem width_no (d : DescD) (f : FormD) (op w a b : Int) (ks : List T) (hk : kidsN op ≠ (ks.length : Int)) : Runs Tryz.prog 103 [descT d, formT f, .agg [.int .i64 op, .int .i64 w, .int .i64 a, .int .i64 b, .vecd 5 ks]] (.t (.int .i64 0)) := by
  refine Runs.of_call ?_ rfl
  refine CallS.of_fn tabS_ok regS_ok Tryz.func103 rfl rfl ?_
  refine draw_introS ord_28_1 (by decide +kernel) ?_
  refine CallS.pure (kids_runs op) rfl ?_
  refine And.intro (fun j hj => by first | (cases hj; done) | exact LeX.append _ _ _) ?_
  refine br_intro (fun c => ?_) (fun c => absurd (c.symm.trans (bne_z hk)) (by decide))
  exact And.intro rfl rfl

theorem width1_18 (d : DescD) (f : FormD) (w a b : Int) (ha : I64 a) (hb : I64 b) {k0 : T} {x : Int} (hk0 : IsTerm k0) (hx0 : 0 ≤ x ∧ x ≤ 128)
    (hr0 : Runs Tryz.prog 103 [descT d, formT f, k0] (.t (.int .i64 x))) :
    Runs Tryz.prog 103 [descT d, formT f, .agg [.int .i64 18, .int .i64 w, .int .i64 a, .int .i64 b, .vecd 5 [k0]]] (.t (.int .i64 (wid1 18 w a b x))) := by
  cases hk0 with | mk o0 w0 a0 b0 s0 _ _ _ _ _ _ =>
  have e : wid1 18 w a b x = if x = 0 then 0 else x := by unfold wid1; simp
  rw [e]
  refine Runs.of_call ?_ rfl
  refine CallS.of_fn tabS_ok regS_ok Tryz.func103 rfl rfl ?_
  refine draw_introS ord_28_1 (by decide +kernel) ?_
  refine CallS.pure (show Runs _ _ _ (.t (.int .i64 1)) from kids_runs 18) rfl ?_
  refine And.intro (fun j hj => by first | (cases hj; done) | exact LeX.append _ _ _) ?_
  refine loop_un 2 ?_
  refine CallS.frzG hr0 rfl ⟨.refl _, .refl _, .refl _, trivial⟩ ?_
  refine br_intro (fun c => ?_) (fun c0 => ?_)
  · have c : x = 0 := by simpa using c
    exact And.intro (fin_i (if_pos (by omega)).symm) rfl
  have c0 : ¬ x = 0 := by simpa using c0
  have cz : ¬ (x = 0) := by omega
  rw [if_neg cz]
  exact And.intro rfl rfl

theorem width1_19 (d : DescD) (f : FormD) (w a b : Int) (ha : I64 a) (hb : I64 b) {k0 : T} {x : Int} (hk0 : IsTerm k0) (hx0 : 0 ≤ x ∧ x ≤ 128)
    (hr0 : Runs Tryz.prog 103 [descT d, formT f, k0] (.t (.int .i64 x))) :
    Runs Tryz.prog 103 [descT d, formT f, .agg [.int .i64 19, .int .i64 w, .int .i64 a, .int .i64 b, .vecd 5 [k0]]] (.t (.int .i64 (wid1 19 w a b x))) := by
  cases hk0 with | mk o0 w0 a0 b0 s0 _ _ _ _ _ _ =>
  have e : wid1 19 w a b x = if x = 0 then 0 else x := by unfold wid1; simp
  rw [e]
  refine Runs.of_call ?_ rfl
  refine CallS.of_fn tabS_ok regS_ok Tryz.func103 rfl rfl ?_
  refine draw_introS ord_28_1 (by decide +kernel) ?_
  refine CallS.pure (show Runs _ _ _ (.t (.int .i64 1)) from kids_runs 19) rfl ?_
  refine And.intro (fun j hj => by first | (cases hj; done) | exact LeX.append _ _ _) ?_
  refine loop_un 2 ?_
  refine CallS.frzG hr0 rfl ⟨.refl _, .refl _, .refl _, trivial⟩ ?_
  refine br_intro (fun c => ?_) (fun c0 => ?_)
  · have c : x = 0 := by simpa using c
    exact And.intro (fin_i (if_pos (by omega)).symm) rfl
  have c0 : ¬ x = 0 := by simpa using c0
  have cz : ¬ (x = 0) := by omega
  rw [if_neg cz]
  exact And.intro rfl rfl

theorem width1_26 (d : DescD) (f : FormD) (w a b : Int) (ha : I64 a) (hb : I64 b) {k0 : T} {x : Int} (hk0 : IsTerm k0) (hx0 : 0 ≤ x ∧ x ≤ 128)
    (hr0 : Runs Tryz.prog 103 [descT d, formT f, k0] (.t (.int .i64 x))) :
    Runs Tryz.prog 103 [descT d, formT f, .agg [.int .i64 26, .int .i64 w, .int .i64 a, .int .i64 b, .vecd 5 [k0]]] (.t (.int .i64 (wid1 26 w a b x))) := by
  cases hk0 with | mk o0 w0 a0 b0 s0 _ _ _ _ _ _ =>
  have e : wid1 26 w a b x = if x = 0 then 0 else (if memP w ∧ x = 64 then w else 0) := by unfold wid1; simp
  rw [e]
  refine Runs.of_call ?_ rfl
  refine CallS.of_fn tabS_ok regS_ok Tryz.func103 rfl rfl ?_
  refine draw_introS ord_28_1 (by decide +kernel) ?_
  refine CallS.pure (show Runs _ _ _ (.t (.int .i64 1)) from kids_runs 26) rfl ?_
  refine And.intro (fun j hj => by first | (cases hj; done) | exact LeX.append _ _ _) ?_
  refine loop_un 2 ?_
  refine CallS.frzG hr0 rfl ⟨.refl _, .refl _, .refl _, trivial⟩ ?_
  refine br_intro (fun c => ?_) (fun c0 => ?_)
  · have c : x = 0 := by simpa using c
    exact And.intro (fin_i (if_pos (by omega)).symm) rfl
  have c0 : ¬ x = 0 := by simpa using c0
  have cz : ¬ (x = 0) := by omega
  rw [if_neg cz]
  refine draw_introS ord_28_39 (by decide +kernel) ?_
  refine CallS.pure (memory_runs w) rfl ?_
  refine And.intro (fun j hj => by first | (cases hj; done) | exact LeX.append _ _ _) ?_
  refine br_intro (fun c => ?_) (fun c => ?_)
  · have c : memP w := by simpa using c
    refine CallS.pure (given_runs _ _) rfl ?_
    refine And.intro (fun j hj => by first | (cases hj; done) | exact LeX.append _ _ _) ?_
    refine And.intro (fun j hj => by first | (cases hj; done) | exact LeX.append _ _ _) ?_
    exact And.intro (fin_i (by simp [c])) rfl
  · have c : ¬ memP w := by simpa using c
    refine CallS.pure (given_runs _ _) rfl ?_
    refine And.intro (fun j hj => by first | (cases hj; done) | exact LeX.append _ _ _) ?_
    refine And.intro (fun j hj => by first | (cases hj; done) | exact LeX.append _ _ _) ?_
    exact And.intro (fin_i (by simp [c])) rfl

theorem width1_28 (d : DescD) (f : FormD) (w a b : Int) (ha : I64 a) (hb : I64 b) {k0 : T} {x : Int} (hk0 : IsTerm k0) (hx0 : 0 ≤ x ∧ x ≤ 128)
    (hr0 : Runs Tryz.prog 103 [descT d, formT f, k0] (.t (.int .i64 x))) :
    Runs Tryz.prog 103 [descT d, formT f, .agg [.int .i64 28, .int .i64 w, .int .i64 a, .int .i64 b, .vecd 5 [k0]]] (.t (.int .i64 (wid1 28 w a b x))) := by
  cases hk0 with | mk o0 w0 a0 b0 s0 _ _ _ _ _ _ =>
  have e : wid1 28 w a b x = if x = 0 then 0 else (if wideP w then w else 0) := by unfold wid1; simp
  rw [e]
  refine Runs.of_call ?_ rfl
  refine CallS.of_fn tabS_ok regS_ok Tryz.func103 rfl rfl ?_
  refine draw_introS ord_28_1 (by decide +kernel) ?_
  refine CallS.pure (show Runs _ _ _ (.t (.int .i64 1)) from kids_runs 28) rfl ?_
  refine And.intro (fun j hj => by first | (cases hj; done) | exact LeX.append _ _ _) ?_
  refine loop_un 2 ?_
  refine CallS.frzG hr0 rfl ⟨.refl _, .refl _, .refl _, trivial⟩ ?_
  refine br_intro (fun c => ?_) (fun c0 => ?_)
  · have c : x = 0 := by simpa using c
    exact And.intro (fin_i (if_pos (by omega)).symm) rfl
  have c0 : ¬ x = 0 := by simpa using c0
  have cz : ¬ (x = 0) := by omega
  rw [if_neg cz]
  refine draw_introS ord_28_27 (by decide +kernel) ?_
  refine CallS.pure (bits128_runs w) rfl ?_
  refine And.intro (fun j hj => by first | (cases hj; done) | exact LeX.append _ _ _) ?_
  refine CallS.pure (given_runs _ _) rfl ?_
  refine And.intro (fun j hj => by first | (cases hj; done) | exact LeX.append _ _ _) ?_
  refine And.intro (fun j hj => by first | (cases hj; done) | exact LeX.append _ _ _) ?_
  exact And.intro (fin_i (by simp)) rfl

theorem width1_29 (d : DescD) (f : FormD) (w a b : Int) (ha : I64 a) (hb : I64 b) {k0 : T} {x : Int} (hk0 : IsTerm k0) (hx0 : 0 ≤ x ∧ x ≤ 128)
    (hr0 : Runs Tryz.prog 103 [descT d, formT f, k0] (.t (.int .i64 x))) :
    Runs Tryz.prog 103 [descT d, formT f, .agg [.int .i64 29, .int .i64 w, .int .i64 a, .int .i64 b, .vecd 5 [k0]]] (.t (.int .i64 (wid1 29 w a b x))) := by
  cases hk0 with | mk o0 w0 a0 b0 s0 _ _ _ _ _ _ =>
  have e : wid1 29 w a b x = if x = 0 then 0 else (if wideP w then w else 0) := by unfold wid1; simp
  rw [e]
  refine Runs.of_call ?_ rfl
  refine CallS.of_fn tabS_ok regS_ok Tryz.func103 rfl rfl ?_
  refine draw_introS ord_28_1 (by decide +kernel) ?_
  refine CallS.pure (show Runs _ _ _ (.t (.int .i64 1)) from kids_runs 29) rfl ?_
  refine And.intro (fun j hj => by first | (cases hj; done) | exact LeX.append _ _ _) ?_
  refine loop_un 2 ?_
  refine CallS.frzG hr0 rfl ⟨.refl _, .refl _, .refl _, trivial⟩ ?_
  refine br_intro (fun c => ?_) (fun c0 => ?_)
  · have c : x = 0 := by simpa using c
    exact And.intro (fin_i (if_pos (by omega)).symm) rfl
  have c0 : ¬ x = 0 := by simpa using c0
  have cz : ¬ (x = 0) := by omega
  rw [if_neg cz]
  refine draw_introS ord_28_27 (by decide +kernel) ?_
  refine CallS.pure (bits128_runs w) rfl ?_
  refine And.intro (fun j hj => by first | (cases hj; done) | exact LeX.append _ _ _) ?_
  refine CallS.pure (given_runs _ _) rfl ?_
  refine And.intro (fun j hj => by first | (cases hj; done) | exact LeX.append _ _ _) ?_
  refine And.intro (fun j hj => by first | (cases hj; done) | exact LeX.append _ _ _) ?_
  exact And.intro (fin_i (by simp)) rfl

theorem width1_30 (d : DescD) (f : FormD) (w a b : Int) (ha : I64 a) (hb : I64 b) {k0 : T} {x : Int} (hk0 : IsTerm k0) (hx0 : 0 ≤ x ∧ x ≤ 128)
    (hr0 : Runs Tryz.prog 103 [descT d, formT f, k0] (.t (.int .i64 x))) :
    Runs Tryz.prog 103 [descT d, formT f, .agg [.int .i64 30, .int .i64 w, .int .i64 a, .int .i64 b, .vecd 5 [k0]]] (.t (.int .i64 (wid1 30 w a b x))) := by
  cases hk0 with | mk o0 w0 a0 b0 s0 _ _ _ _ _ _ =>
  have e : wid1 30 w a b x = if x = 0 then 0 else (if 0 ≤ b ∧ b ≤ a ∧ a < x then a - b + 1 else 0) := by unfold wid1; simp
  rw [e]
  refine Runs.of_call ?_ rfl
  refine CallS.of_fn tabS_ok regS_ok Tryz.func103 rfl rfl ?_
  refine draw_introS ord_28_1 (by decide +kernel) ?_
  refine CallS.pure (show Runs _ _ _ (.t (.int .i64 1)) from kids_runs 30) rfl ?_
  refine And.intro (fun j hj => by first | (cases hj; done) | exact LeX.append _ _ _) ?_
  refine loop_un 2 ?_
  refine CallS.frzG hr0 rfl ⟨.refl _, .refl _, .refl _, trivial⟩ ?_
  refine br_intro (fun c => ?_) (fun c0 => ?_)
  · have c : x = 0 := by simpa using c
    exact And.intro (fin_i (if_pos (by omega)).symm) rfl
  have c0 : ¬ x = 0 := by simpa using c0
  have cz : ¬ (x = 0) := by omega
  rw [if_neg cz]
  refine br_intro (fun q1 => ?_) (fun q1 => ?_)
  · have q1 : 0 ≤ b := by simpa using q1
    refine br_intro (fun q2 => ?_) (fun q2 => ?_)
    · have q2 : b ≤ a := by simpa using q2
      by_cases q3 : a < x
      · refine st_intro (i64_int (n := a - b) (by omega) (by omega)) ?_
        refine st_intro (i64_int (n := a - b + 1) (by omega) (by omega)) ?_
        refine CallS.pure (given_runs _ _) rfl ?_
        exact And.intro (fin_i (by simp [q1, q2, q3])) rfl
      · obtain ⟨g, hg⟩ : ∃ g, IntKind.i64.wrap (a - b) = g := ⟨_, rfl⟩
        obtain ⟨g2, hg2⟩ : ∃ g2, IntKind.i64.wrap (g + 1) = g2 := ⟨_, rfl⟩
        refine st_intro hg ?_
        refine st_intro hg2 ?_
        refine CallS.pure (given_runs _ _) rfl ?_
        exact And.intro (fin_i (by simp [q3])) rfl
    · have q2 : ¬ b ≤ a := by simpa using q2
      obtain ⟨g, hg⟩ : ∃ g, IntKind.i64.wrap (a - b) = g := ⟨_, rfl⟩
      obtain ⟨g2, hg2⟩ : ∃ g2, IntKind.i64.wrap (g + 1) = g2 := ⟨_, rfl⟩
      refine st_intro hg ?_
      refine st_intro hg2 ?_
      refine CallS.pure (given_runs _ _) rfl ?_
      exact And.intro (fin_i (by simp [q2])) rfl
  · have q1 : ¬ 0 ≤ b := by simpa using q1
    obtain ⟨g, hg⟩ : ∃ g, IntKind.i64.wrap (a - b) = g := ⟨_, rfl⟩
    obtain ⟨g2, hg2⟩ : ∃ g2, IntKind.i64.wrap (g + 1) = g2 := ⟨_, rfl⟩
    refine st_intro hg ?_
    refine st_intro hg2 ?_
    refine CallS.pure (given_runs _ _) rfl ?_
    exact And.intro (fin_i (by simp [q1])) rfl

theorem width2_1 (d : DescD) (f : FormD) (w a b : Int) (ha : I64 a) (hb : I64 b) {k0 : T} {x : Int} (hk0 : IsTerm k0) (hx0 : 0 ≤ x ∧ x ≤ 128)
    (hr0 : Runs Tryz.prog 103 [descT d, formT f, k0] (.t (.int .i64 x))) {k1 : T} {y : Int} (hk1 : IsTerm k1) (hx1 : 0 ≤ y ∧ y ≤ 128)
    (hr1 : Runs Tryz.prog 103 [descT d, formT f, k1] (.t (.int .i64 y))) :
    Runs Tryz.prog 103 [descT d, formT f, .agg [.int .i64 1, .int .i64 w, .int .i64 a, .int .i64 b, .vecd 5 [k0, k1]]] (.t (.int .i64 (wid2 1 x y))) := by
  cases hk0 with | mk o0 w0 a0 b0 s0 _ _ _ _ _ _ =>
  cases hk1 with | mk o1 w1 a1 b1 s1 _ _ _ _ _ _ =>
  have e : wid2 1 x y = if x = 0 ∨ y = 0 then 0 else (if x = y then x else 0) := by unfold wid2; simp
  rw [e]
  refine Runs.of_call ?_ rfl
  refine CallS.of_fn tabS_ok regS_ok Tryz.func103 rfl rfl ?_
  refine draw_introS ord_28_1 (by decide +kernel) ?_
  refine CallS.pure (show Runs _ _ _ (.t (.int .i64 2)) from kids_runs 1) rfl ?_
  refine And.intro (fun j hj => by first | (cases hj; done) | exact LeX.append _ _ _) ?_
  refine loop_un 3 ?_
  refine CallS.frzG hr0 rfl ⟨.refl _, .refl _, .refl _, trivial⟩ ?_
  refine br_intro (fun c => ?_) (fun c0 => ?_)
  · have c : x = 0 := by simpa using c
    exact And.intro (fin_i (if_pos (by omega)).symm) rfl
  have c0 : ¬ x = 0 := by simpa using c0
  refine CallS.frzG hr1 rfl ⟨.refl _, .refl _, .refl _, trivial⟩ ?_
  refine br_intro (fun c => ?_) (fun c1 => ?_)
  · have c : y = 0 := by simpa using c
    exact And.intro (fin_i (if_pos (by omega)).symm) rfl
  have c1 : ¬ y = 0 := by simpa using c1
  have cz : ¬ (x = 0 ∨ y = 0) := by omega
  rw [if_neg cz]
  refine CallS.pure (given_runs _ _) rfl ?_
  exact And.intro (fin_i (by simp)) rfl

theorem width2_2 (d : DescD) (f : FormD) (w a b : Int) (ha : I64 a) (hb : I64 b) {k0 : T} {x : Int} (hk0 : IsTerm k0) (hx0 : 0 ≤ x ∧ x ≤ 128)
    (hr0 : Runs Tryz.prog 103 [descT d, formT f, k0] (.t (.int .i64 x))) {k1 : T} {y : Int} (hk1 : IsTerm k1) (hx1 : 0 ≤ y ∧ y ≤ 128)
    (hr1 : Runs Tryz.prog 103 [descT d, formT f, k1] (.t (.int .i64 y))) :
    Runs Tryz.prog 103 [descT d, formT f, .agg [.int .i64 2, .int .i64 w, .int .i64 a, .int .i64 b, .vecd 5 [k0, k1]]] (.t (.int .i64 (wid2 2 x y))) := by
  cases hk0 with | mk o0 w0 a0 b0 s0 _ _ _ _ _ _ =>
  cases hk1 with | mk o1 w1 a1 b1 s1 _ _ _ _ _ _ =>
  have e : wid2 2 x y = if x = 0 ∨ y = 0 then 0 else (if x = y then x else 0) := by unfold wid2; simp
  rw [e]
  refine Runs.of_call ?_ rfl
  refine CallS.of_fn tabS_ok regS_ok Tryz.func103 rfl rfl ?_
  refine draw_introS ord_28_1 (by decide +kernel) ?_
  refine CallS.pure (show Runs _ _ _ (.t (.int .i64 2)) from kids_runs 2) rfl ?_
  refine And.intro (fun j hj => by first | (cases hj; done) | exact LeX.append _ _ _) ?_
  refine loop_un 3 ?_
  refine CallS.frzG hr0 rfl ⟨.refl _, .refl _, .refl _, trivial⟩ ?_
  refine br_intro (fun c => ?_) (fun c0 => ?_)
  · have c : x = 0 := by simpa using c
    exact And.intro (fin_i (if_pos (by omega)).symm) rfl
  have c0 : ¬ x = 0 := by simpa using c0
  refine CallS.frzG hr1 rfl ⟨.refl _, .refl _, .refl _, trivial⟩ ?_
  refine br_intro (fun c => ?_) (fun c1 => ?_)
  · have c : y = 0 := by simpa using c
    exact And.intro (fin_i (if_pos (by omega)).symm) rfl
  have c1 : ¬ y = 0 := by simpa using c1
  have cz : ¬ (x = 0 ∨ y = 0) := by omega
  rw [if_neg cz]
  refine CallS.pure (given_runs _ _) rfl ?_
  exact And.intro (fin_i (by simp)) rfl

theorem width2_3 (d : DescD) (f : FormD) (w a b : Int) (ha : I64 a) (hb : I64 b) {k0 : T} {x : Int} (hk0 : IsTerm k0) (hx0 : 0 ≤ x ∧ x ≤ 128)
    (hr0 : Runs Tryz.prog 103 [descT d, formT f, k0] (.t (.int .i64 x))) {k1 : T} {y : Int} (hk1 : IsTerm k1) (hx1 : 0 ≤ y ∧ y ≤ 128)
    (hr1 : Runs Tryz.prog 103 [descT d, formT f, k1] (.t (.int .i64 y))) :
    Runs Tryz.prog 103 [descT d, formT f, .agg [.int .i64 3, .int .i64 w, .int .i64 a, .int .i64 b, .vecd 5 [k0, k1]]] (.t (.int .i64 (wid2 3 x y))) := by
  cases hk0 with | mk o0 w0 a0 b0 s0 _ _ _ _ _ _ =>
  cases hk1 with | mk o1 w1 a1 b1 s1 _ _ _ _ _ _ =>
  have e : wid2 3 x y = if x = 0 ∨ y = 0 then 0 else (if x = y then x else 0) := by unfold wid2; simp
  rw [e]
  refine Runs.of_call ?_ rfl
  refine CallS.of_fn tabS_ok regS_ok Tryz.func103 rfl rfl ?_
  refine draw_introS ord_28_1 (by decide +kernel) ?_
  refine CallS.pure (show Runs _ _ _ (.t (.int .i64 2)) from kids_runs 3) rfl ?_
  refine And.intro (fun j hj => by first | (cases hj; done) | exact LeX.append _ _ _) ?_
  refine loop_un 3 ?_
  refine CallS.frzG hr0 rfl ⟨.refl _, .refl _, .refl _, trivial⟩ ?_
  refine br_intro (fun c => ?_) (fun c0 => ?_)
  · have c : x = 0 := by simpa using c
    exact And.intro (fin_i (if_pos (by omega)).symm) rfl
  have c0 : ¬ x = 0 := by simpa using c0
  refine CallS.frzG hr1 rfl ⟨.refl _, .refl _, .refl _, trivial⟩ ?_
  refine br_intro (fun c => ?_) (fun c1 => ?_)
  · have c : y = 0 := by simpa using c
    exact And.intro (fin_i (if_pos (by omega)).symm) rfl
  have c1 : ¬ y = 0 := by simpa using c1
  have cz : ¬ (x = 0 ∨ y = 0) := by omega
  rw [if_neg cz]
  refine CallS.pure (given_runs _ _) rfl ?_
  exact And.intro (fin_i (by simp)) rfl

theorem width2_4 (d : DescD) (f : FormD) (w a b : Int) (ha : I64 a) (hb : I64 b) {k0 : T} {x : Int} (hk0 : IsTerm k0) (hx0 : 0 ≤ x ∧ x ≤ 128)
    (hr0 : Runs Tryz.prog 103 [descT d, formT f, k0] (.t (.int .i64 x))) {k1 : T} {y : Int} (hk1 : IsTerm k1) (hx1 : 0 ≤ y ∧ y ≤ 128)
    (hr1 : Runs Tryz.prog 103 [descT d, formT f, k1] (.t (.int .i64 y))) :
    Runs Tryz.prog 103 [descT d, formT f, .agg [.int .i64 4, .int .i64 w, .int .i64 a, .int .i64 b, .vecd 5 [k0, k1]]] (.t (.int .i64 (wid2 4 x y))) := by
  cases hk0 with | mk o0 w0 a0 b0 s0 _ _ _ _ _ _ =>
  cases hk1 with | mk o1 w1 a1 b1 s1 _ _ _ _ _ _ =>
  have e : wid2 4 x y = if x = 0 ∨ y = 0 then 0 else (if x = y then x else 0) := by unfold wid2; simp
  rw [e]
  refine Runs.of_call ?_ rfl
  refine CallS.of_fn tabS_ok regS_ok Tryz.func103 rfl rfl ?_
  refine draw_introS ord_28_1 (by decide +kernel) ?_
  refine CallS.pure (show Runs _ _ _ (.t (.int .i64 2)) from kids_runs 4) rfl ?_
  refine And.intro (fun j hj => by first | (cases hj; done) | exact LeX.append _ _ _) ?_
  refine loop_un 3 ?_
  refine CallS.frzG hr0 rfl ⟨.refl _, .refl _, .refl _, trivial⟩ ?_
  refine br_intro (fun c => ?_) (fun c0 => ?_)
  · have c : x = 0 := by simpa using c
    exact And.intro (fin_i (if_pos (by omega)).symm) rfl
  have c0 : ¬ x = 0 := by simpa using c0
  refine CallS.frzG hr1 rfl ⟨.refl _, .refl _, .refl _, trivial⟩ ?_
  refine br_intro (fun c => ?_) (fun c1 => ?_)
  · have c : y = 0 := by simpa using c
    exact And.intro (fin_i (if_pos (by omega)).symm) rfl
  have c1 : ¬ y = 0 := by simpa using c1
  have cz : ¬ (x = 0 ∨ y = 0) := by omega
  rw [if_neg cz]
  refine CallS.pure (given_runs _ _) rfl ?_
  exact And.intro (fin_i (by simp)) rfl

theorem width2_5 (d : DescD) (f : FormD) (w a b : Int) (ha : I64 a) (hb : I64 b) {k0 : T} {x : Int} (hk0 : IsTerm k0) (hx0 : 0 ≤ x ∧ x ≤ 128)
    (hr0 : Runs Tryz.prog 103 [descT d, formT f, k0] (.t (.int .i64 x))) {k1 : T} {y : Int} (hk1 : IsTerm k1) (hx1 : 0 ≤ y ∧ y ≤ 128)
    (hr1 : Runs Tryz.prog 103 [descT d, formT f, k1] (.t (.int .i64 y))) :
    Runs Tryz.prog 103 [descT d, formT f, .agg [.int .i64 5, .int .i64 w, .int .i64 a, .int .i64 b, .vecd 5 [k0, k1]]] (.t (.int .i64 (wid2 5 x y))) := by
  cases hk0 with | mk o0 w0 a0 b0 s0 _ _ _ _ _ _ =>
  cases hk1 with | mk o1 w1 a1 b1 s1 _ _ _ _ _ _ =>
  have e : wid2 5 x y = if x = 0 ∨ y = 0 then 0 else (if x = y then x else 0) := by unfold wid2; simp
  rw [e]
  refine Runs.of_call ?_ rfl
  refine CallS.of_fn tabS_ok regS_ok Tryz.func103 rfl rfl ?_
  refine draw_introS ord_28_1 (by decide +kernel) ?_
  refine CallS.pure (show Runs _ _ _ (.t (.int .i64 2)) from kids_runs 5) rfl ?_
  refine And.intro (fun j hj => by first | (cases hj; done) | exact LeX.append _ _ _) ?_
  refine loop_un 3 ?_
  refine CallS.frzG hr0 rfl ⟨.refl _, .refl _, .refl _, trivial⟩ ?_
  refine br_intro (fun c => ?_) (fun c0 => ?_)
  · have c : x = 0 := by simpa using c
    exact And.intro (fin_i (if_pos (by omega)).symm) rfl
  have c0 : ¬ x = 0 := by simpa using c0
  refine CallS.frzG hr1 rfl ⟨.refl _, .refl _, .refl _, trivial⟩ ?_
  refine br_intro (fun c => ?_) (fun c1 => ?_)
  · have c : y = 0 := by simpa using c
    exact And.intro (fin_i (if_pos (by omega)).symm) rfl
  have c1 : ¬ y = 0 := by simpa using c1
  have cz : ¬ (x = 0 ∨ y = 0) := by omega
  rw [if_neg cz]
  refine CallS.pure (given_runs _ _) rfl ?_
  exact And.intro (fin_i (by simp)) rfl

theorem width2_6 (d : DescD) (f : FormD) (w a b : Int) (ha : I64 a) (hb : I64 b) {k0 : T} {x : Int} (hk0 : IsTerm k0) (hx0 : 0 ≤ x ∧ x ≤ 128)
    (hr0 : Runs Tryz.prog 103 [descT d, formT f, k0] (.t (.int .i64 x))) {k1 : T} {y : Int} (hk1 : IsTerm k1) (hx1 : 0 ≤ y ∧ y ≤ 128)
    (hr1 : Runs Tryz.prog 103 [descT d, formT f, k1] (.t (.int .i64 y))) :
    Runs Tryz.prog 103 [descT d, formT f, .agg [.int .i64 6, .int .i64 w, .int .i64 a, .int .i64 b, .vecd 5 [k0, k1]]] (.t (.int .i64 (wid2 6 x y))) := by
  cases hk0 with | mk o0 w0 a0 b0 s0 _ _ _ _ _ _ =>
  cases hk1 with | mk o1 w1 a1 b1 s1 _ _ _ _ _ _ =>
  have e : wid2 6 x y = if x = 0 ∨ y = 0 then 0 else (if x = y then x else 0) := by unfold wid2; simp
  rw [e]
  refine Runs.of_call ?_ rfl
  refine CallS.of_fn tabS_ok regS_ok Tryz.func103 rfl rfl ?_
  refine draw_introS ord_28_1 (by decide +kernel) ?_
  refine CallS.pure (show Runs _ _ _ (.t (.int .i64 2)) from kids_runs 6) rfl ?_
  refine And.intro (fun j hj => by first | (cases hj; done) | exact LeX.append _ _ _) ?_
  refine loop_un 3 ?_
  refine CallS.frzG hr0 rfl ⟨.refl _, .refl _, .refl _, trivial⟩ ?_
  refine br_intro (fun c => ?_) (fun c0 => ?_)
  · have c : x = 0 := by simpa using c
    exact And.intro (fin_i (if_pos (by omega)).symm) rfl
  have c0 : ¬ x = 0 := by simpa using c0
  refine CallS.frzG hr1 rfl ⟨.refl _, .refl _, .refl _, trivial⟩ ?_
  refine br_intro (fun c => ?_) (fun c1 => ?_)
  · have c : y = 0 := by simpa using c
    exact And.intro (fin_i (if_pos (by omega)).symm) rfl
  have c1 : ¬ y = 0 := by simpa using c1
  have cz : ¬ (x = 0 ∨ y = 0) := by omega
  rw [if_neg cz]
  refine CallS.pure (given_runs _ _) rfl ?_
  exact And.intro (fin_i (by simp)) rfl

theorem width2_7 (d : DescD) (f : FormD) (w a b : Int) (ha : I64 a) (hb : I64 b) {k0 : T} {x : Int} (hk0 : IsTerm k0) (hx0 : 0 ≤ x ∧ x ≤ 128)
    (hr0 : Runs Tryz.prog 103 [descT d, formT f, k0] (.t (.int .i64 x))) {k1 : T} {y : Int} (hk1 : IsTerm k1) (hx1 : 0 ≤ y ∧ y ≤ 128)
    (hr1 : Runs Tryz.prog 103 [descT d, formT f, k1] (.t (.int .i64 y))) :
    Runs Tryz.prog 103 [descT d, formT f, .agg [.int .i64 7, .int .i64 w, .int .i64 a, .int .i64 b, .vecd 5 [k0, k1]]] (.t (.int .i64 (wid2 7 x y))) := by
  cases hk0 with | mk o0 w0 a0 b0 s0 _ _ _ _ _ _ =>
  cases hk1 with | mk o1 w1 a1 b1 s1 _ _ _ _ _ _ =>
  have e : wid2 7 x y = if x = 0 ∨ y = 0 then 0 else x := by unfold wid2; simp
  rw [e]
  refine Runs.of_call ?_ rfl
  refine CallS.of_fn tabS_ok regS_ok Tryz.func103 rfl rfl ?_
  refine draw_introS ord_28_1 (by decide +kernel) ?_
  refine CallS.pure (show Runs _ _ _ (.t (.int .i64 2)) from kids_runs 7) rfl ?_
  refine And.intro (fun j hj => by first | (cases hj; done) | exact LeX.append _ _ _) ?_
  refine loop_un 3 ?_
  refine CallS.frzG hr0 rfl ⟨.refl _, .refl _, .refl _, trivial⟩ ?_
  refine br_intro (fun c => ?_) (fun c0 => ?_)
  · have c : x = 0 := by simpa using c
    exact And.intro (fin_i (if_pos (by omega)).symm) rfl
  have c0 : ¬ x = 0 := by simpa using c0
  refine CallS.frzG hr1 rfl ⟨.refl _, .refl _, .refl _, trivial⟩ ?_
  refine br_intro (fun c => ?_) (fun c1 => ?_)
  · have c : y = 0 := by simpa using c
    exact And.intro (fin_i (if_pos (by omega)).symm) rfl
  have c1 : ¬ y = 0 := by simpa using c1
  have cz : ¬ (x = 0 ∨ y = 0) := by omega
  rw [if_neg cz]
  exact And.intro rfl rfl

theorem width2_8 (d : DescD) (f : FormD) (w a b : Int) (ha : I64 a) (hb : I64 b) {k0 : T} {x : Int} (hk0 : IsTerm k0) (hx0 : 0 ≤ x ∧ x ≤ 128)
    (hr0 : Runs Tryz.prog 103 [descT d, formT f, k0] (.t (.int .i64 x))) {k1 : T} {y : Int} (hk1 : IsTerm k1) (hx1 : 0 ≤ y ∧ y ≤ 128)
    (hr1 : Runs Tryz.prog 103 [descT d, formT f, k1] (.t (.int .i64 y))) :
    Runs Tryz.prog 103 [descT d, formT f, .agg [.int .i64 8, .int .i64 w, .int .i64 a, .int .i64 b, .vecd 5 [k0, k1]]] (.t (.int .i64 (wid2 8 x y))) := by
  cases hk0 with | mk o0 w0 a0 b0 s0 _ _ _ _ _ _ =>
  cases hk1 with | mk o1 w1 a1 b1 s1 _ _ _ _ _ _ =>
  have e : wid2 8 x y = if x = 0 ∨ y = 0 then 0 else x := by unfold wid2; simp
  rw [e]
  refine Runs.of_call ?_ rfl
  refine CallS.of_fn tabS_ok regS_ok Tryz.func103 rfl rfl ?_
  refine draw_introS ord_28_1 (by decide +kernel) ?_
  refine CallS.pure (show Runs _ _ _ (.t (.int .i64 2)) from kids_runs 8) rfl ?_
  refine And.intro (fun j hj => by first | (cases hj; done) | exact LeX.append _ _ _) ?_
  refine loop_un 3 ?_
  refine CallS.frzG hr0 rfl ⟨.refl _, .refl _, .refl _, trivial⟩ ?_
  refine br_intro (fun c => ?_) (fun c0 => ?_)
  · have c : x = 0 := by simpa using c
    exact And.intro (fin_i (if_pos (by omega)).symm) rfl
  have c0 : ¬ x = 0 := by simpa using c0
  refine CallS.frzG hr1 rfl ⟨.refl _, .refl _, .refl _, trivial⟩ ?_
  refine br_intro (fun c => ?_) (fun c1 => ?_)
  · have c : y = 0 := by simpa using c
    exact And.intro (fin_i (if_pos (by omega)).symm) rfl
  have c1 : ¬ y = 0 := by simpa using c1
  have cz : ¬ (x = 0 ∨ y = 0) := by omega
  rw [if_neg cz]
  exact And.intro rfl rfl

theorem width2_9 (d : DescD) (f : FormD) (w a b : Int) (ha : I64 a) (hb : I64 b) {k0 : T} {x : Int} (hk0 : IsTerm k0) (hx0 : 0 ≤ x ∧ x ≤ 128)
    (hr0 : Runs Tryz.prog 103 [descT d, formT f, k0] (.t (.int .i64 x))) {k1 : T} {y : Int} (hk1 : IsTerm k1) (hx1 : 0 ≤ y ∧ y ≤ 128)
    (hr1 : Runs Tryz.prog 103 [descT d, formT f, k1] (.t (.int .i64 y))) :
    Runs Tryz.prog 103 [descT d, formT f, .agg [.int .i64 9, .int .i64 w, .int .i64 a, .int .i64 b, .vecd 5 [k0, k1]]] (.t (.int .i64 (wid2 9 x y))) := by
  cases hk0 with | mk o0 w0 a0 b0 s0 _ _ _ _ _ _ =>
  cases hk1 with | mk o1 w1 a1 b1 s1 _ _ _ _ _ _ =>
  have e : wid2 9 x y = if x = 0 ∨ y = 0 then 0 else x := by unfold wid2; simp
  rw [e]
  refine Runs.of_call ?_ rfl
  refine CallS.of_fn tabS_ok regS_ok Tryz.func103 rfl rfl ?_
  refine draw_introS ord_28_1 (by decide +kernel) ?_
  refine CallS.pure (show Runs _ _ _ (.t (.int .i64 2)) from kids_runs 9) rfl ?_
  refine And.intro (fun j hj => by first | (cases hj; done) | exact LeX.append _ _ _) ?_
  refine loop_un 3 ?_
  refine CallS.frzG hr0 rfl ⟨.refl _, .refl _, .refl _, trivial⟩ ?_
  refine br_intro (fun c => ?_) (fun c0 => ?_)
  · have c : x = 0 := by simpa using c
    exact And.intro (fin_i (if_pos (by omega)).symm) rfl
  have c0 : ¬ x = 0 := by simpa using c0
  refine CallS.frzG hr1 rfl ⟨.refl _, .refl _, .refl _, trivial⟩ ?_
  refine br_intro (fun c => ?_) (fun c1 => ?_)
  · have c : y = 0 := by simpa using c
    exact And.intro (fin_i (if_pos (by omega)).symm) rfl
  have c1 : ¬ y = 0 := by simpa using c1
  have cz : ¬ (x = 0 ∨ y = 0) := by omega
  rw [if_neg cz]
  exact And.intro rfl rfl

theorem width2_10 (d : DescD) (f : FormD) (w a b : Int) (ha : I64 a) (hb : I64 b) {k0 : T} {x : Int} (hk0 : IsTerm k0) (hx0 : 0 ≤ x ∧ x ≤ 128)
    (hr0 : Runs Tryz.prog 103 [descT d, formT f, k0] (.t (.int .i64 x))) {k1 : T} {y : Int} (hk1 : IsTerm k1) (hx1 : 0 ≤ y ∧ y ≤ 128)
    (hr1 : Runs Tryz.prog 103 [descT d, formT f, k1] (.t (.int .i64 y))) :
    Runs Tryz.prog 103 [descT d, formT f, .agg [.int .i64 10, .int .i64 w, .int .i64 a, .int .i64 b, .vecd 5 [k0, k1]]] (.t (.int .i64 (wid2 10 x y))) := by
  cases hk0 with | mk o0 w0 a0 b0 s0 _ _ _ _ _ _ =>
  cases hk1 with | mk o1 w1 a1 b1 s1 _ _ _ _ _ _ =>
  have e : wid2 10 x y = if x = 0 ∨ y = 0 then 0 else (if x = y then x else 0) := by unfold wid2; simp
  rw [e]
  refine Runs.of_call ?_ rfl
  refine CallS.of_fn tabS_ok regS_ok Tryz.func103 rfl rfl ?_
  refine draw_introS ord_28_1 (by decide +kernel) ?_
  refine CallS.pure (show Runs _ _ _ (.t (.int .i64 2)) from kids_runs 10) rfl ?_
  refine And.intro (fun j hj => by first | (cases hj; done) | exact LeX.append _ _ _) ?_
  refine loop_un 3 ?_
  refine CallS.frzG hr0 rfl ⟨.refl _, .refl _, .refl _, trivial⟩ ?_
  refine br_intro (fun c => ?_) (fun c0 => ?_)
  · have c : x = 0 := by simpa using c
    exact And.intro (fin_i (if_pos (by omega)).symm) rfl
  have c0 : ¬ x = 0 := by simpa using c0
  refine CallS.frzG hr1 rfl ⟨.refl _, .refl _, .refl _, trivial⟩ ?_
  refine br_intro (fun c => ?_) (fun c1 => ?_)
  · have c : y = 0 := by simpa using c
    exact And.intro (fin_i (if_pos (by omega)).symm) rfl
  have c1 : ¬ y = 0 := by simpa using c1
  have cz : ¬ (x = 0 ∨ y = 0) := by omega
  rw [if_neg cz]
  refine CallS.pure (given_runs _ _) rfl ?_
  exact And.intro (fin_i (by simp)) rfl

theorem width2_11 (d : DescD) (f : FormD) (w a b : Int) (ha : I64 a) (hb : I64 b) {k0 : T} {x : Int} (hk0 : IsTerm k0) (hx0 : 0 ≤ x ∧ x ≤ 128)
    (hr0 : Runs Tryz.prog 103 [descT d, formT f, k0] (.t (.int .i64 x))) {k1 : T} {y : Int} (hk1 : IsTerm k1) (hx1 : 0 ≤ y ∧ y ≤ 128)
    (hr1 : Runs Tryz.prog 103 [descT d, formT f, k1] (.t (.int .i64 y))) :
    Runs Tryz.prog 103 [descT d, formT f, .agg [.int .i64 11, .int .i64 w, .int .i64 a, .int .i64 b, .vecd 5 [k0, k1]]] (.t (.int .i64 (wid2 11 x y))) := by
  cases hk0 with | mk o0 w0 a0 b0 s0 _ _ _ _ _ _ =>
  cases hk1 with | mk o1 w1 a1 b1 s1 _ _ _ _ _ _ =>
  have e : wid2 11 x y = if x = 0 ∨ y = 0 then 0 else (if x = y then x else 0) := by unfold wid2; simp
  rw [e]
  refine Runs.of_call ?_ rfl
  refine CallS.of_fn tabS_ok regS_ok Tryz.func103 rfl rfl ?_
  refine draw_introS ord_28_1 (by decide +kernel) ?_
  refine CallS.pure (show Runs _ _ _ (.t (.int .i64 2)) from kids_runs 11) rfl ?_
  refine And.intro (fun j hj => by first | (cases hj; done) | exact LeX.append _ _ _) ?_
  refine loop_un 3 ?_
  refine CallS.frzG hr0 rfl ⟨.refl _, .refl _, .refl _, trivial⟩ ?_
  refine br_intro (fun c => ?_) (fun c0 => ?_)
  · have c : x = 0 := by simpa using c
    exact And.intro (fin_i (if_pos (by omega)).symm) rfl
  have c0 : ¬ x = 0 := by simpa using c0
  refine CallS.frzG hr1 rfl ⟨.refl _, .refl _, .refl _, trivial⟩ ?_
  refine br_intro (fun c => ?_) (fun c1 => ?_)
  · have c : y = 0 := by simpa using c
    exact And.intro (fin_i (if_pos (by omega)).symm) rfl
  have c1 : ¬ y = 0 := by simpa using c1
  have cz : ¬ (x = 0 ∨ y = 0) := by omega
  rw [if_neg cz]
  refine CallS.pure (given_runs _ _) rfl ?_
  exact And.intro (fin_i (by simp)) rfl

theorem width2_12 (d : DescD) (f : FormD) (w a b : Int) (ha : I64 a) (hb : I64 b) {k0 : T} {x : Int} (hk0 : IsTerm k0) (hx0 : 0 ≤ x ∧ x ≤ 128)
    (hr0 : Runs Tryz.prog 103 [descT d, formT f, k0] (.t (.int .i64 x))) {k1 : T} {y : Int} (hk1 : IsTerm k1) (hx1 : 0 ≤ y ∧ y ≤ 128)
    (hr1 : Runs Tryz.prog 103 [descT d, formT f, k1] (.t (.int .i64 y))) :
    Runs Tryz.prog 103 [descT d, formT f, .agg [.int .i64 12, .int .i64 w, .int .i64 a, .int .i64 b, .vecd 5 [k0, k1]]] (.t (.int .i64 (wid2 12 x y))) := by
  cases hk0 with | mk o0 w0 a0 b0 s0 _ _ _ _ _ _ =>
  cases hk1 with | mk o1 w1 a1 b1 s1 _ _ _ _ _ _ =>
  have e : wid2 12 x y = if x = 0 ∨ y = 0 then 0 else (if x = y then x else 0) := by unfold wid2; simp
  rw [e]
  refine Runs.of_call ?_ rfl
  refine CallS.of_fn tabS_ok regS_ok Tryz.func103 rfl rfl ?_
  refine draw_introS ord_28_1 (by decide +kernel) ?_
  refine CallS.pure (show Runs _ _ _ (.t (.int .i64 2)) from kids_runs 12) rfl ?_
  refine And.intro (fun j hj => by first | (cases hj; done) | exact LeX.append _ _ _) ?_
  refine loop_un 3 ?_
  refine CallS.frzG hr0 rfl ⟨.refl _, .refl _, .refl _, trivial⟩ ?_
  refine br_intro (fun c => ?_) (fun c0 => ?_)
  · have c : x = 0 := by simpa using c
    exact And.intro (fin_i (if_pos (by omega)).symm) rfl
  have c0 : ¬ x = 0 := by simpa using c0
  refine CallS.frzG hr1 rfl ⟨.refl _, .refl _, .refl _, trivial⟩ ?_
  refine br_intro (fun c => ?_) (fun c1 => ?_)
  · have c : y = 0 := by simpa using c
    exact And.intro (fin_i (if_pos (by omega)).symm) rfl
  have c1 : ¬ y = 0 := by simpa using c1
  have cz : ¬ (x = 0 ∨ y = 0) := by omega
  rw [if_neg cz]
  refine CallS.pure (given_runs _ _) rfl ?_
  exact And.intro (fin_i (by simp)) rfl

theorem width2_13 (d : DescD) (f : FormD) (w a b : Int) (ha : I64 a) (hb : I64 b) {k0 : T} {x : Int} (hk0 : IsTerm k0) (hx0 : 0 ≤ x ∧ x ≤ 128)
    (hr0 : Runs Tryz.prog 103 [descT d, formT f, k0] (.t (.int .i64 x))) {k1 : T} {y : Int} (hk1 : IsTerm k1) (hx1 : 0 ≤ y ∧ y ≤ 128)
    (hr1 : Runs Tryz.prog 103 [descT d, formT f, k1] (.t (.int .i64 y))) :
    Runs Tryz.prog 103 [descT d, formT f, .agg [.int .i64 13, .int .i64 w, .int .i64 a, .int .i64 b, .vecd 5 [k0, k1]]] (.t (.int .i64 (wid2 13 x y))) := by
  cases hk0 with | mk o0 w0 a0 b0 s0 _ _ _ _ _ _ =>
  cases hk1 with | mk o1 w1 a1 b1 s1 _ _ _ _ _ _ =>
  have e : wid2 13 x y = if x = 0 ∨ y = 0 then 0 else (if x = y then x else 0) := by unfold wid2; simp
  rw [e]
  refine Runs.of_call ?_ rfl
  refine CallS.of_fn tabS_ok regS_ok Tryz.func103 rfl rfl ?_
  refine draw_introS ord_28_1 (by decide +kernel) ?_
  refine CallS.pure (show Runs _ _ _ (.t (.int .i64 2)) from kids_runs 13) rfl ?_
  refine And.intro (fun j hj => by first | (cases hj; done) | exact LeX.append _ _ _) ?_
  refine loop_un 3 ?_
  refine CallS.frzG hr0 rfl ⟨.refl _, .refl _, .refl _, trivial⟩ ?_
  refine br_intro (fun c => ?_) (fun c0 => ?_)
  · have c : x = 0 := by simpa using c
    exact And.intro (fin_i (if_pos (by omega)).symm) rfl
  have c0 : ¬ x = 0 := by simpa using c0
  refine CallS.frzG hr1 rfl ⟨.refl _, .refl _, .refl _, trivial⟩ ?_
  refine br_intro (fun c => ?_) (fun c1 => ?_)
  · have c : y = 0 := by simpa using c
    exact And.intro (fin_i (if_pos (by omega)).symm) rfl
  have c1 : ¬ y = 0 := by simpa using c1
  have cz : ¬ (x = 0 ∨ y = 0) := by omega
  rw [if_neg cz]
  refine CallS.pure (given_runs _ _) rfl ?_
  exact And.intro (fin_i (by simp)) rfl

theorem width2_14 (d : DescD) (f : FormD) (w a b : Int) (ha : I64 a) (hb : I64 b) {k0 : T} {x : Int} (hk0 : IsTerm k0) (hx0 : 0 ≤ x ∧ x ≤ 128)
    (hr0 : Runs Tryz.prog 103 [descT d, formT f, k0] (.t (.int .i64 x))) {k1 : T} {y : Int} (hk1 : IsTerm k1) (hx1 : 0 ≤ y ∧ y ≤ 128)
    (hr1 : Runs Tryz.prog 103 [descT d, formT f, k1] (.t (.int .i64 y))) :
    Runs Tryz.prog 103 [descT d, formT f, .agg [.int .i64 14, .int .i64 w, .int .i64 a, .int .i64 b, .vecd 5 [k0, k1]]] (.t (.int .i64 (wid2 14 x y))) := by
  cases hk0 with | mk o0 w0 a0 b0 s0 _ _ _ _ _ _ =>
  cases hk1 with | mk o1 w1 a1 b1 s1 _ _ _ _ _ _ =>
  have e : wid2 14 x y = if x = 0 ∨ y = 0 then 0 else (if x = y then 1 else 0) := by unfold wid2; simp
  rw [e]
  refine Runs.of_call ?_ rfl
  refine CallS.of_fn tabS_ok regS_ok Tryz.func103 rfl rfl ?_
  refine draw_introS ord_28_1 (by decide +kernel) ?_
  refine CallS.pure (show Runs _ _ _ (.t (.int .i64 2)) from kids_runs 14) rfl ?_
  refine And.intro (fun j hj => by first | (cases hj; done) | exact LeX.append _ _ _) ?_
  refine loop_un 3 ?_
  refine CallS.frzG hr0 rfl ⟨.refl _, .refl _, .refl _, trivial⟩ ?_
  refine br_intro (fun c => ?_) (fun c0 => ?_)
  · have c : x = 0 := by simpa using c
    exact And.intro (fin_i (if_pos (by omega)).symm) rfl
  have c0 : ¬ x = 0 := by simpa using c0
  refine CallS.frzG hr1 rfl ⟨.refl _, .refl _, .refl _, trivial⟩ ?_
  refine br_intro (fun c => ?_) (fun c1 => ?_)
  · have c : y = 0 := by simpa using c
    exact And.intro (fin_i (if_pos (by omega)).symm) rfl
  have c1 : ¬ y = 0 := by simpa using c1
  have cz : ¬ (x = 0 ∨ y = 0) := by omega
  rw [if_neg cz]
  refine CallS.pure (given_runs _ _) rfl ?_
  exact And.intro (fin_i (by simp)) rfl

theorem width2_15 (d : DescD) (f : FormD) (w a b : Int) (ha : I64 a) (hb : I64 b) {k0 : T} {x : Int} (hk0 : IsTerm k0) (hx0 : 0 ≤ x ∧ x ≤ 128)
    (hr0 : Runs Tryz.prog 103 [descT d, formT f, k0] (.t (.int .i64 x))) {k1 : T} {y : Int} (hk1 : IsTerm k1) (hx1 : 0 ≤ y ∧ y ≤ 128)
    (hr1 : Runs Tryz.prog 103 [descT d, formT f, k1] (.t (.int .i64 y))) :
    Runs Tryz.prog 103 [descT d, formT f, .agg [.int .i64 15, .int .i64 w, .int .i64 a, .int .i64 b, .vecd 5 [k0, k1]]] (.t (.int .i64 (wid2 15 x y))) := by
  cases hk0 with | mk o0 w0 a0 b0 s0 _ _ _ _ _ _ =>
  cases hk1 with | mk o1 w1 a1 b1 s1 _ _ _ _ _ _ =>
  have e : wid2 15 x y = if x = 0 ∨ y = 0 then 0 else (if x = y then 1 else 0) := by unfold wid2; simp
  rw [e]
  refine Runs.of_call ?_ rfl
  refine CallS.of_fn tabS_ok regS_ok Tryz.func103 rfl rfl ?_
  refine draw_introS ord_28_1 (by decide +kernel) ?_
  refine CallS.pure (show Runs _ _ _ (.t (.int .i64 2)) from kids_runs 15) rfl ?_
  refine And.intro (fun j hj => by first | (cases hj; done) | exact LeX.append _ _ _) ?_
  refine loop_un 3 ?_
  refine CallS.frzG hr0 rfl ⟨.refl _, .refl _, .refl _, trivial⟩ ?_
  refine br_intro (fun c => ?_) (fun c0 => ?_)
  · have c : x = 0 := by simpa using c
    exact And.intro (fin_i (if_pos (by omega)).symm) rfl
  have c0 : ¬ x = 0 := by simpa using c0
  refine CallS.frzG hr1 rfl ⟨.refl _, .refl _, .refl _, trivial⟩ ?_
  refine br_intro (fun c => ?_) (fun c1 => ?_)
  · have c : y = 0 := by simpa using c
    exact And.intro (fin_i (if_pos (by omega)).symm) rfl
  have c1 : ¬ y = 0 := by simpa using c1
  have cz : ¬ (x = 0 ∨ y = 0) := by omega
  rw [if_neg cz]
  refine CallS.pure (given_runs _ _) rfl ?_
  exact And.intro (fin_i (by simp)) rfl

theorem width2_16 (d : DescD) (f : FormD) (w a b : Int) (ha : I64 a) (hb : I64 b) {k0 : T} {x : Int} (hk0 : IsTerm k0) (hx0 : 0 ≤ x ∧ x ≤ 128)
    (hr0 : Runs Tryz.prog 103 [descT d, formT f, k0] (.t (.int .i64 x))) {k1 : T} {y : Int} (hk1 : IsTerm k1) (hx1 : 0 ≤ y ∧ y ≤ 128)
    (hr1 : Runs Tryz.prog 103 [descT d, formT f, k1] (.t (.int .i64 y))) :
    Runs Tryz.prog 103 [descT d, formT f, .agg [.int .i64 16, .int .i64 w, .int .i64 a, .int .i64 b, .vecd 5 [k0, k1]]] (.t (.int .i64 (wid2 16 x y))) := by
  cases hk0 with | mk o0 w0 a0 b0 s0 _ _ _ _ _ _ =>
  cases hk1 with | mk o1 w1 a1 b1 s1 _ _ _ _ _ _ =>
  have e : wid2 16 x y = if x = 0 ∨ y = 0 then 0 else (if x = y then 1 else 0) := by unfold wid2; simp
  rw [e]
  refine Runs.of_call ?_ rfl
  refine CallS.of_fn tabS_ok regS_ok Tryz.func103 rfl rfl ?_
  refine draw_introS ord_28_1 (by decide +kernel) ?_
  refine CallS.pure (show Runs _ _ _ (.t (.int .i64 2)) from kids_runs 16) rfl ?_
  refine And.intro (fun j hj => by first | (cases hj; done) | exact LeX.append _ _ _) ?_
  refine loop_un 3 ?_
  refine CallS.frzG hr0 rfl ⟨.refl _, .refl _, .refl _, trivial⟩ ?_
  refine br_intro (fun c => ?_) (fun c0 => ?_)
  · have c : x = 0 := by simpa using c
    exact And.intro (fin_i (if_pos (by omega)).symm) rfl
  have c0 : ¬ x = 0 := by simpa using c0
  refine CallS.frzG hr1 rfl ⟨.refl _, .refl _, .refl _, trivial⟩ ?_
  refine br_intro (fun c => ?_) (fun c1 => ?_)
  · have c : y = 0 := by simpa using c
    exact And.intro (fin_i (if_pos (by omega)).symm) rfl
  have c1 : ¬ y = 0 := by simpa using c1
  have cz : ¬ (x = 0 ∨ y = 0) := by omega
  rw [if_neg cz]
  refine CallS.pure (given_runs _ _) rfl ?_
  exact And.intro (fin_i (by simp)) rfl

theorem width2_17 (d : DescD) (f : FormD) (w a b : Int) (ha : I64 a) (hb : I64 b) {k0 : T} {x : Int} (hk0 : IsTerm k0) (hx0 : 0 ≤ x ∧ x ≤ 128)
    (hr0 : Runs Tryz.prog 103 [descT d, formT f, k0] (.t (.int .i64 x))) {k1 : T} {y : Int} (hk1 : IsTerm k1) (hx1 : 0 ≤ y ∧ y ≤ 128)
    (hr1 : Runs Tryz.prog 103 [descT d, formT f, k1] (.t (.int .i64 y))) :
    Runs Tryz.prog 103 [descT d, formT f, .agg [.int .i64 17, .int .i64 w, .int .i64 a, .int .i64 b, .vecd 5 [k0, k1]]] (.t (.int .i64 (wid2 17 x y))) := by
  cases hk0 with | mk o0 w0 a0 b0 s0 _ _ _ _ _ _ =>
  cases hk1 with | mk o1 w1 a1 b1 s1 _ _ _ _ _ _ =>
  have e : wid2 17 x y = if x = 0 ∨ y = 0 then 0 else (if x + y ≤ 128 then x + y else 0) := by unfold wid2; simp
  rw [e]
  refine Runs.of_call ?_ rfl
  refine CallS.of_fn tabS_ok regS_ok Tryz.func103 rfl rfl ?_
  refine draw_introS ord_28_1 (by decide +kernel) ?_
  refine CallS.pure (show Runs _ _ _ (.t (.int .i64 2)) from kids_runs 17) rfl ?_
  refine And.intro (fun j hj => by first | (cases hj; done) | exact LeX.append _ _ _) ?_
  refine loop_un 3 ?_
  refine CallS.frzG hr0 rfl ⟨.refl _, .refl _, .refl _, trivial⟩ ?_
  refine br_intro (fun c => ?_) (fun c0 => ?_)
  · have c : x = 0 := by simpa using c
    exact And.intro (fin_i (if_pos (by omega)).symm) rfl
  have c0 : ¬ x = 0 := by simpa using c0
  refine CallS.frzG hr1 rfl ⟨.refl _, .refl _, .refl _, trivial⟩ ?_
  refine br_intro (fun c => ?_) (fun c1 => ?_)
  · have c : y = 0 := by simpa using c
    exact And.intro (fin_i (if_pos (by omega)).symm) rfl
  have c1 : ¬ y = 0 := by simpa using c1
  have cz : ¬ (x = 0 ∨ y = 0) := by omega
  rw [if_neg cz]
  refine st_intro (i64_int (n := x + y) (by omega) (by omega)) ?_
  refine st_intro (i64_int (n := x + y) (by omega) (by omega)) ?_
  refine CallS.pure (given_runs _ _) rfl ?_
  exact And.intro (fin_i (by simp)) rfl

theorem width3_27 (d : DescD) (f : FormD) (w a b : Int) (ha : I64 a) (hb : I64 b) {k0 : T} {x : Int} (hk0 : IsTerm k0) (hx0 : 0 ≤ x ∧ x ≤ 128)
    (hr0 : Runs Tryz.prog 103 [descT d, formT f, k0] (.t (.int .i64 x))) {k1 : T} {y : Int} (hk1 : IsTerm k1) (hx1 : 0 ≤ y ∧ y ≤ 128)
    (hr1 : Runs Tryz.prog 103 [descT d, formT f, k1] (.t (.int .i64 y))) {k2 : T} {z : Int} (hk2 : IsTerm k2) (hx2 : 0 ≤ z ∧ z ≤ 128)
    (hr2 : Runs Tryz.prog 103 [descT d, formT f, k2] (.t (.int .i64 z))) :
    Runs Tryz.prog 103 [descT d, formT f, .agg [.int .i64 27, .int .i64 w, .int .i64 a, .int .i64 b, .vecd 5 [k0, k1, k2]]] (.t (.int .i64 (wid3 27 x y z))) := by
  cases hk0 with | mk o0 w0 a0 b0 s0 _ _ _ _ _ _ =>
  cases hk1 with | mk o1 w1 a1 b1 s1 _ _ _ _ _ _ =>
  cases hk2 with | mk o2 w2 a2 b2 s2 _ _ _ _ _ _ =>
  have e : wid3 27 x y z = if x = 0 ∨ y = 0 ∨ z = 0 then 0 else (if x = 1 ∧ y = z then y else 0) := by unfold wid3; simp
  rw [e]
  refine Runs.of_call ?_ rfl
  refine CallS.of_fn tabS_ok regS_ok Tryz.func103 rfl rfl ?_
  refine draw_introS ord_28_1 (by decide +kernel) ?_
  refine CallS.pure (show Runs _ _ _ (.t (.int .i64 3)) from kids_runs 27) rfl ?_
  refine And.intro (fun j hj => by first | (cases hj; done) | exact LeX.append _ _ _) ?_
  refine loop_un 4 ?_
  refine CallS.frzG hr0 rfl ⟨.refl _, .refl _, .refl _, trivial⟩ ?_
  refine br_intro (fun c => ?_) (fun c0 => ?_)
  · have c : x = 0 := by simpa using c
    exact And.intro (fin_i (if_pos (by omega)).symm) rfl
  have c0 : ¬ x = 0 := by simpa using c0
  refine CallS.frzG hr1 rfl ⟨.refl _, .refl _, .refl _, trivial⟩ ?_
  refine br_intro (fun c => ?_) (fun c1 => ?_)
  · have c : y = 0 := by simpa using c
    exact And.intro (fin_i (if_pos (by omega)).symm) rfl
  have c1 : ¬ y = 0 := by simpa using c1
  refine CallS.frzG hr2 rfl ⟨.refl _, .refl _, .refl _, trivial⟩ ?_
  refine br_intro (fun c => ?_) (fun c2 => ?_)
  · have c : z = 0 := by simpa using c
    exact And.intro (fin_i (if_pos (by omega)).symm) rfl
  have c2 : ¬ z = 0 := by simpa using c2
  have cz : ¬ (x = 0 ∨ y = 0 ∨ z = 0) := by omega
  rw [if_neg cz]
  refine br_intro (fun q1 => ?_) (fun q1 => ?_)
  · have q1 : x = 1 := by simpa using q1
    refine CallS.pure (given_runs _ _) rfl ?_
    exact And.intro (fin_i (by simp [q1])) rfl
  · have q1 : ¬ x = 1 := by simpa using q1
    refine CallS.pure (given_runs _ _) rfl ?_
    exact And.intro (fin_i (by simp [q1])) rfl

end Go.Proofs.YtnjmeadmkbkikaaGreatDoor
