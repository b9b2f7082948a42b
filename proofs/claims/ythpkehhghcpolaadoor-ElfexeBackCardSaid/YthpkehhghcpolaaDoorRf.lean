/-
  What elfexe.Read gives of a written executable is that executable (the law's walk).
-/
import Derived.Test.YthpkehhghcpolaaDoorRe
namespace Go.Proofs.YthpkehhghcpolaaDoor
open Go.IntWalk
set_option maxRecDepth 100000
set_option linter.unusedVariables false
set_option linter.unusedSimpArgs false
set_option maxHeartbeats 2000000

theorem seg_look {l : List SegD} {i : Nat} (h : i < l.length) : (l.map segT)[((i : Nat) : Int).toNat]? = some (segT l[i]) := by rw [Int.toNat_natCast, List.getElem?_map, List.getElem?_eq_getElem h]; rfl

def smS (x : ExeD) : AH := [.box [.t (.int .i64 x.m), .t (.int .i64 x.e), .t (.vecd 4 (x.ss.map segT)), .t (.vecd 4 (x.ts.map segT))], .box [.t (.int .i64 x.m), .t (.int .i64 x.e), .t (.vecd 4 (x.ss.map segT)), .t (.vecd 4 (x.ts.map segT))]]

theorem sameE_runs {x : ExeD} (hb : ExeB x) : Runs Tryd.prog 15 [exeT x, exeT x] (.t (.bool true)) := by
  have hb1 : x.ss.length ≤ 2932031007317 := hb.sl
  have hb2 : x.ts.length ≤ 2932031007317 := hb.tl
  refine Runs.of_call ?_ rfl
  refine CallS.of_fn tabS_ok regS_ok Tryd.func15 rfl rfl ?_
  refine br_intro (fun c => ?_) (fun _ => ?_)
  · simp at c
  refine br_intro (fun c => ?_) (fun _ => ?_)
  · simp at c
  refine br_intro (fun c => ?_) (fun _ => ?_)
  · simp at c
  refine br_intro (fun c => ?_) (fun _ => ?_)
  · simp at c
  refine loop_then (fun e s' => e = .exit 0 ∧ ∃ b : Bool, ∃ k : Int, s' = ⟨[(45, .t (.bool b)), (44, .t (.int .i64 k)), (2, .ptr 0 0 0 0), (3, .ptr 1 0 0 0), (42, .t (.vecd 4 (x.ss.map segT))), (43, .t (.int .i64 (((x.ss.map segT).length : Nat) : Int)))], smS x⟩) (fun Q' hq => ?_) ?_
  · refine loop_on (fun i : Nat => i ≤ x.ss.length) (fun i => ⟨[(44, .t (.int .i64 ((i : Nat) : Int))), (2, .ptr 0 0 0 0), (3, .ptr 1 0 0 0), (42, .t (.vecd 4 (x.ss.map segT))), (43, .t (.int .i64 (((x.ss.map segT).length : Nat) : Int)))], smS x⟩) (fun i => x.ss.length - i) 0 (Nat.zero_le _) ?_ (fun i hi => ?_)
    · exact weak_of ⟨rfl, rfl, rfl, rfl, rfl, trivial⟩ rfl
    · refine br_intro (fun c => ?_) (fun c => ?_)
      · have c : i < (x.ss.map segT).length := by have : (i : Int) < (((x.ss.map segT).length : Nat) : Int) := of_decide_eq_true c; omega
        have hs : i < x.ss.length := by simpa using c
        refine opt_intro (seg_look hs) ?_
        refine opt_intro (seg_look hs) ?_
        refine br_intro (fun c => ?_) (fun _ => ?_)
        · simp at c
        refine br_intro (fun c => ?_) (fun _ => ?_)
        · simp at c
        refine br_intro (fun c => ?_) (fun _ => ?_)
        · simp at c
        refine ⟨x.ss[i].d, rfl, ?_⟩
        refine ⟨x.ss[i].d, rfl, ?_⟩
        refine br_intro (fun c => ?_) (fun _ => ?_)
        · simp at c
        obtain ⟨j, hj⟩ : ∃ j, j = i + 1 := ⟨_, rfl⟩
        refine st_intro (n := ((j : Nat) : Int)) (show IntKind.i64.wrap ((i : Int) + 1) = _ from by rw [IntKind.wrap_i64]; omega) ?_
        refine ⟨⟨j, by omega⟩, ?_, by show x.ss.length - j < x.ss.length - i; omega⟩
        exact weak_gc [0, 1] rfl ⟨rfl, rfl, rfl, rfl, rfl, trivial⟩ ⟨rfl, rfl, trivial⟩
      · exact hq _ _ ⟨rfl, _, _, rfl⟩
  · rintro _ _ ⟨rfl, b, k, rfl⟩
    refine loop_on (fun i : Nat => i ≤ x.ts.length) (fun i => ⟨[(86, .t (.int .i64 ((i : Nat) : Int))), (2, .ptr 0 0 0 0), (3, .ptr 1 0 0 0), (84, .t (.vecd 4 (x.ts.map segT))), (85, .t (.int .i64 (((x.ts.map segT).length : Nat) : Int)))], smS x⟩) (fun i => x.ts.length - i) 0 (Nat.zero_le _) ?_ (fun i hi => ?_)
    · exact weak_of ⟨rfl, rfl, rfl, rfl, rfl, trivial⟩ rfl
    · refine br_intro (fun c => ?_) (fun c => ?_)
      · have c : i < (x.ts.map segT).length := by have : (i : Int) < (((x.ts.map segT).length : Nat) : Int) := of_decide_eq_true c; omega
        have hs : i < x.ts.length := by simpa using c
        refine opt_intro (seg_look hs) ?_
        refine opt_intro (seg_look hs) ?_
        refine br_intro (fun c => ?_) (fun _ => ?_)
        · simp at c
        refine br_intro (fun c => ?_) (fun _ => ?_)
        · simp at c
        refine br_intro (fun c => ?_) (fun _ => ?_)
        · simp at c
        refine ⟨x.ts[i].d, rfl, ?_⟩
        refine ⟨x.ts[i].d, rfl, ?_⟩
        refine br_intro (fun c => ?_) (fun _ => ?_)
        · simp at c
        obtain ⟨j, hj⟩ : ∃ j, j = i + 1 := ⟨_, rfl⟩
        refine st_intro (n := ((j : Nat) : Int)) (show IntKind.i64.wrap ((i : Int) + 1) = _ from by rw [IntKind.wrap_i64]; omega) ?_
        refine ⟨⟨j, by omega⟩, ?_, by show x.ts.length - j < x.ts.length - i; omega⟩
        exact weak_gc [0, 1] rfl ⟨rfl, rfl, rfl, rfl, rfl, trivial⟩ ⟨rfl, rfl, trivial⟩
      · exact And.intro rfl rfl

/-- The chapter's example. -/
def exe0 : ExeD := ⟨0, 0, [], []⟩
theorem exe0_ok : ExeB exe0 ∧ SoundP exe0 ∧ ¬ manyP exe0 := by
  refine ⟨⟨by decide, by decide, fun s hs => absurd hs List.not_mem_nil, fun s hs => absurd hs List.not_mem_nil, by decide⟩, ⟨by decide, by decide, by decide, by decide, fun i h => absurd h (Nat.not_lt_zero _), fun i h => absurd h (Nat.not_lt_zero _)⟩, ?_⟩
  rintro (h | h)
  · exact absurd h (by decide)
  · exact absurd h (by decide)

theorem alive_runs : Runs Tryd.prog 10 [] (.t (.bool true)) := by
  obtain ⟨hb, hx, hm⟩ := exe0_ok
  have hl : (fileL exe0).length = 64 := by rw [fileL_len]; rfl
  have hw := write_good hb hx hm _ rfl (fun q => absurd q (by rw [← endOf_file, hl]; decide)) (fun _ => rfl)
  have hr := read_good exe0 hx hb hm (by rw [hl]; decide)
  obtain ⟨L, hL⟩ : ∃ L, L = fileL exe0 := ⟨_, rfl⟩
  rw [← hL] at hl hr hw
  have hU : (U L).length = 64 := by rw [U_len, hl]
  refine Runs.of_call ?_ rfl
  refine CallS.of_fn tabS_ok regS_ok Tryd.func10 rfl rfl ?_
  refine CallS.frzG hw rfl ⟨.aggS ⟨.refl _, .refl _, .nils 4, .nils 4, trivial⟩, trivial⟩ ?_
  refine Or.inl (And.intro rfl (ck_intro (show fitsRow (0 + ((Sq.ts (U L)).part 0 (U L).length).length) 1 = true from by rw [Sq.part_length, Nat.zero_add]; simp only [Sq.length, hU]; decide) ?_))
  refine CallS.frzG hr rfl ⟨.of_eq (congrArg (T.vec 1) (show _ = U L from by simp [Sq.part, Sq.length])), trivial⟩ ?_
  refine br_intro (fun _ => ?_) (fun c => ?_)
  rotate_left 1
  · have : ¬ (((U L).length : Nat) : Int) = 64 := by simpa using c
    omega
  exact And.intro rfl rfl

theorem backRuns {x : ExeD} (hb : ExeB x) : Runs Tryd.prog 3 [exeT x] (.t (.bool true)) := by
  have hS := sound_runs' hb
  refine Runs.of_call ?_ rfl
  refine CallS.of_fn tabS_ok regS_ok Tryd.func3 rfl rfl ?_
  refine CallS.pure alive_runs rfl ?_
  refine CallS.frzG (copy_runs' hb) rfl ⟨.refl _, trivial⟩ ?_
  by_cases h : SoundP x
  · have bad : Runs Tryd.prog 11 [exeT x] (.tup [.own 5 1 true [], .t (.int .i64 183)]) ∨ (¬ manyP x ∧ (fileL x).length ≤ 67108864 ∧ Runs Tryd.prog 11 [exeT x] (.tup [oU false (fileL x), .t (.int .i64 0)])) := by
      by_cases hm : manyP x
      · exact .inl (write_many' hb h hm)
      · by_cases he : endOf (at0 x) (hdsOf x) ≤ 67108864
        · exact .inr ⟨hm, by rw [endOf_file]; exact he, write_good hb h hm _ rfl (fun q => absurd he (by omega)) (fun _ => rfl)⟩
        · exact .inl (write_good hb h hm _ rfl (fun _ => rfl) (fun q => absurd q he))
    rcases bad with hw | ⟨hm, hl, hw⟩
    · refine CallS.pure hw rfl ?_
      exact And.intro rfl rfl
    · refine CallS.pure hw rfl ?_
      refine CallS.frzG (read_good x h hb hm hl) rfl ⟨.of_eq (snap_own _ _ rfl), trivial⟩ ?_
      refine CallS.frzG (sameE_runs hb) rfl ⟨.refl _, .refl _, trivial⟩ ?_
      exact And.intro rfl rfl
  · rw [decide_eq_false h] at hS
    refine CallS.pure (write_no' hb h) rfl ?_
    refine CallS.frzG hS rfl ⟨.refl _, trivial⟩ ?_
    exact And.intro rfl rfl

theorem backLaw (c0 : List T) (h0 : HasT Tryd.prog 25 c0) :
    Runs Tryd.prog 3 [argOf Tryd.prog 25 c0] (.t (.bool true)) := by
  obtain ⟨x, hb, hs⟩ := exe_arg h0
  exact (backRuns hb).sub ⟨hs, trivial⟩

end Go.Proofs.YthpkehhghcpolaaDoor
