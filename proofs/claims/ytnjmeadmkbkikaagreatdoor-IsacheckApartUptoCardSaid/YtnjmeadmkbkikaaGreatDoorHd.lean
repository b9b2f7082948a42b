/-
  The rest of a description: relocations, uses, relaxings, macros.
-/
import Derived.Test.YtnjmeadmkbkikaaGreatDoorHc
namespace Go.Proofs.YtnjmeadmkbkikaaGreatDoor
open Go.IntWalk
set_option maxRecDepth 100000
set_option linter.unusedVariables false
set_option linter.unusedSimpArgs false
set_option maxHeartbeats 1000000

/-- A checker, where a function has captured it. -/
def ckP (d : DescD) : T := .iptr [.str d.name, .int .i64 d.order, .vecd 4 (d.files.map fileT), .vecd 3 (d.aliases.map aliasT), .vecd 1 (d.flags.map T.str), .vecd 7 (d.classes.map classT), .vecd 5 (d.forms.map formT), .vecd 17 (d.rels.map relT), .vecd 4 (d.uses.map useT), .vecd 3 (d.relaxes.map relaxedT), .vecd 3 (d.macros.map macroT), .vecd 2 (d.nums.map namedT), .vecd 3 (d.regs.map aliasT)]

theorem use_runs (d : DescD) (x : UseD) : RunsX Tryz.prog 67 [useT x, ckP d] (YesS True) := by
  have hk := kind_runs d x.rel
  obtain ⟨k, hkv⟩ : ∃ k, k = kindV d x.rel := ⟨_, rfl⟩
  rw [← hkv] at hk
  refine RunsX.of_call ?_ YesS.noRef
  refine CallS.of_fn tabS_ok regS_ok Tryz.func67 rfl rfl ?_
  refine CallS.pure hk rfl ?_
  refine draw_introS ord_59_2 (by decide +kernel) ?_
  refine CallS.pure (among_runs _ _) rfl ?_
  refine And.intro (fun j hj => by first | (cases hj; done) | exact LeX.append _ _ _ | exact LeX.refl _ _) ?_
  refine br_intro (fun c1 => ?_) (fun _ => ?_)
  rotate_left 1
  · refine And.intro (fun j hj => by first | (cases hj; done) | exact LeX.append _ _ _ | exact LeX.refl _ _) ?_
    exact no_end
  refine br_intro (fun c2 => ?_) (fun _ => ?_)
  rotate_left 1
  · refine And.intro (fun j hj => by first | (cases hj; done) | exact LeX.append _ _ _ | exact LeX.refl _ _) ?_
    exact no_end
  have c2 : k > 1 := by simpa using c2
  have hr : 0 ≤ x.rel ∧ x.rel < d.rels.length := kindV_in (by omega)
  obtain ⟨y, _, _, hy⟩ := at_some hr
  refine br_intro (fun c3 => ?_) (fun c3 => ?_)
  · refine And.intro (fun j hj => by first | (cases hj; done) | exact LeX.append _ _ _ | exact LeX.refl _ _) ?_
    exact yes_end fun _ => trivial
  · refine ck_intro (ix0 rfl hr.1) ?_
    refine opt_intro (row_get hy) ?_
    refine And.intro (fun j hj => by first | (cases hj; done) | exact LeX.append _ _ _ | exact LeX.refl _ _) ?_
    exact yes_end fun _ => trivial

theorem macro_runs (d : DescD) (x : MacroD) : RunsX Tryz.prog 72 [macroT x, ckP d] (YesS True) := by
  refine RunsX.of_call ?_ YesS.noRef
  refine CallS.of_fn tabS_ok regS_ok Tryz.func72 rfl rfl ?_
  refine br_intro (fun c => ?_) (fun c => ?_)
  · exact yes_end fun _ => trivial
  refine CallS.pure (kind_runs d x.rel) rfl ?_
  exact yes_end fun _ => trivial

theorem relaxed_runs (d : DescD) (x : RelaxedD) (hfl : ∀ fm ∈ d.forms, fm.args.length ≤ 9223372036854775807) : RunsX Tryz.prog 69 [relaxedT x, ckP d] (YesS True) := by
  have hk1 := kind_runs d x.rel
  have hk2 := kind_runs d x.to
  obtain ⟨k, hkv⟩ : ∃ k, k = kindV d x.to := ⟨_, rfl⟩
  rw [← hkv] at hk2
  refine RunsX.of_call ?_ YesS.noRef
  refine CallS.of_fn tabS_ok regS_ok Tryz.func69 rfl rfl ?_
  refine CallS.pure hk1 rfl ?_
  refine br_intro (fun _ => ?_) (fun c1 => ?_)
  · exact no_end
  refine CallS.pure hk2 rfl ?_
  refine br_intro (fun _ => ?_) (fun c2 => ?_)
  · exact no_end
  have c2 : k = 3 := by simpa using c2
  have hr : 0 ≤ x.to ∧ x.to < d.rels.length := kindV_in (by omega)
  obtain ⟨y, _, _, hy⟩ := at_some hr
  refine CallS.pure (among_runs _ _) rfl ?_
  refine br_intro (fun _ => ?_) (fun c3 => ?_)
  · exact no_end
  have c3 := am1 (nf (show (!decide _) = false from c3))
  obtain ⟨fm, _, hfmm, hfm⟩ := at_some c3
  have hfl := hfl fm hfmm
  refine ck_intro (ix0 rfl c3.1) ?_
  refine opt_intro (row_get hfm) ?_
  refine CallS.of_fn tabS_ok regS_ok Tryz.func70 rfl rfl ?_
  refine CallS.of_fn tabS_ok regS_ok Tryz.func105 rfl rfl ?_
  refine loop_on (fun i : Nat => i ≤ fm.args.length) (fun i => ⟨[(0, .t (.vecd 2 (fm.args.map argT))), (1, .fn (.func 71) [] [.t (ckP d), .ptr 0 0 0 0]), (7, .t (.int .i64 ((fm.args.map argT).length : Int))), (8, .t (.int .i64 i))], [.box [.t (.int .i64 x.rel), .t (.int .i64 x.form), .t (.int .i64 x.to)]]⟩)
    (fun i => fm.args.length - i) 0 (Nat.zero_le _) ?_ (fun i hi => ?_)
  · exact weak_of ⟨rfl, rfl, rfl, rfl, trivial⟩ rfl
  have hmap : (fm.args.map argT).length = fm.args.length := by simp
  refine br_intro (fun c => ?_) (fun c => ?_)
  · have c : i < fm.args.length := by have := dlt c; omega
    obtain ⟨z, hz, hzm⟩ := get_some (R := fm.args) (i := i) c
    refine opt_intro (show (fm.args.map argT)[((i : Nat) : Int).toNat]? = some (argT z) from by rw [Int.toNat_natCast, List.getElem?_map, hz]; rfl) ?_
    refine CallS.of_fn tabS_ok regS_ok Tryz.func71 rfl rfl ?_
    refine draw_introS ord_63_1 (by decide +kernel) ?_
    refine ck_intro (ix0 rfl hr.1) ?_
    refine opt_intro (row_get hy) ?_
    refine And.intro (fun j hj => by first | (cases hj; done) | exact LeX.append _ _ _ | exact LeX.refl _ _) ?_
    refine br_intro (fun c4 => ?_) (fun c4 => ?_)
    · exact yes_end fun _ => trivial
    · refine st_intro (n := ((i + 1 : Nat) : Int)) (nat_in (n := i + 1) (by omega)) ?_
      conv => whnf
      exact ⟨⟨i + 1, c⟩, weak_gc [0] rfl ⟨rfl, rfl, rfl, rfl, trivial⟩ ⟨rfl, trivial⟩, by show fm.args.length - (i + 1) < fm.args.length - i; omega⟩
  · exact yes_end fun _ => trivial

theorem rest_runs (d : DescD) (hd : d.ok) : RunsX Tryz.prog 29 [descT d] (YesS True) := by
  have hd0 := hd
  obtain ⟨_, _, l1, o1, l2, o2, l3, o3, l4, o4, l5, o5, l6, o6, l7, o7, l8, o8, l9, o9, l10, o10, l11, o11⟩ := hd
  have hA : RunsX Tryz.prog 73 [.vecd 17 (d.rels.map relT), .fn (.func 74) [descT d] []] (YesS (∀ x ∈ d.rels, True)) :=
    all_Rel_10 _ (descT d) d.rels (fun _ => True) (maxLen_le l6) fun x hx => rel_runs d x (o6 x hx)
  have hB : RunsX Tryz.prog 75 [.vecd 4 (d.uses.map useT), .fn (.func 67) [] [ckP d]] (YesS (∀ x ∈ d.uses, True)) :=
    all_Use_01 _ (ckP d) d.uses (fun _ => True) (maxLen_le l7) fun x hx => use_runs d x
  have hC : RunsX Tryz.prog 76 [.vecd 3 (d.relaxes.map relaxedT), .fn (.func 69) [] [ckP d]] (YesS (∀ x ∈ d.relaxes, True)) :=
    all_Relaxed_01 _ (ckP d) d.relaxes (fun _ => True) (maxLen_le l8) fun x hx => relaxed_runs d x (fun fm hfm => maxLen_le (o5 fm hfm).2.2.1)
  have hD : RunsX Tryz.prog 77 [.vecd 3 (d.macros.map macroT), .fn (.func 72) [] [ckP d]] (YesS (∀ x ∈ d.macros, True)) :=
    all_Macro_01 _ (ckP d) d.macros (fun _ => True) (maxLen_le l9) fun x hx => macro_runs d x
  refine RunsX.of_call ?_ YesS.noRef
  refine CallS.of_fn tabS_ok regS_ok Tryz.func29 rfl rfl ?_
  refine CallS.frzX hA rfl ⟨.refl _, .refl _, trivial⟩ ?_
  rintro _ ⟨bA, rfl, pA⟩
  refine br_intro (fun cA => ?_) (fun _ => ?_)
  rotate_left 1
  · exact no_end
  refine CallS.snapX hB rfl ⟨.refl _, .refl _, trivial⟩ YesS.flat ?_
  rintro _ ⟨bB, rfl, pB⟩
  refine br_intro (fun cB => ?_) (fun _ => ?_)
  rotate_left 1
  · exact no_end
  refine CallS.snapX hC rfl ⟨.refl _, .refl _, trivial⟩ YesS.flat ?_
  rintro _ ⟨bC, rfl, pC⟩
  refine br_intro (fun cC => ?_) (fun _ => ?_)
  rotate_left 1
  · exact no_end
  refine CallS.snapX hD rfl ⟨.refl _, .refl _, trivial⟩ YesS.flat ?_
  rintro _ ⟨bD, rfl, pD⟩
  exact yes_end fun _ => trivial

end Go.Proofs.YtnjmeadmkbkikaaGreatDoor
