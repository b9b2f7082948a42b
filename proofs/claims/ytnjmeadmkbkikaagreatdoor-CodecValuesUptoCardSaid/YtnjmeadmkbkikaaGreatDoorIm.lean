/-
  Which values a class has (the law).
-/
import Derived.Test.YtnjmeadmkbkikaaGreatDoorIl
namespace Go.Proofs.YtnjmeadmkbkikaaGreatDoor
open Go.IntWalk
set_option maxRecDepth 100000
set_option linter.unusedVariables false
set_option linter.unusedSimpArgs false
set_option maxHeartbeats 4000000

def ord_5_8 : Ord := (.op 0 [] (.op 1 [0] (.op 2 [1, 0] (.op 4 [2, 1, 0] (.op 5 [2, 1, 0] (.op 6 [5, 4, 2, 1, 0] (.op 7 [2, 1, 0] (.op 8 [2, 1, 0] (.op 9 [8, 7, 6, 5, 4, 2, 1, 0] (.op 3 [9, 8, 7, 6, 5, 4] (.op 10 [] (.op 11 [] (.op 12 [] .nil)))))))))))))

theorem valuesRuns (halive : Runs Tryz.prog 11 [] (.t (.bool true))) (d : DescD) (hd : d.ok) (hs : ∀ f ∈ d.forms, sumL f.pieces ≤ 2000000000000) (hsc : d.classes.length ≤ 2000000) (hse : ∀ k ∈ d.classes, k.excl.length ≤ 2000000) (c v : Int) (hc : I64 c) (hv : I64 v) :
    Runs Tryz.prog 5 [descT d, .int .i64 c, .int .i64 v] (.t (.bool true)) := by
  have hm1 : (d.classes.map classT).length = d.classes.length := by simp
  refine Runs.of_call ?_ rfl
  refine CallS.of_fn tabS_ok regS_ok Tryz.func5 rfl rfl ?_
  refine CallS.pure halive rfl ?_
  refine CallS.frzX (new_runs d hd hs hsc hse) rfl ⟨.refl _, trivial⟩ ?_
  rintro _ (⟨e, he, rfl⟩ | ⟨P, root, hok, hPl, hP, hfind, rfl⟩)
  · refine br_intro (fun c1 => ?_) (fun c1 => ?_)
    · exact And.intro rfl rfl
    · exact absurd (by simpa using c1) he
  refine br_intro (fun c1 => ?_) (fun c1 => ?_)
  · have c1 := of_decide_eq_true c1
    refine CallS.frzG (has_runs d hsc hse hok.parts.classes P root.t c v hc hv) rfl ⟨.refl _, .refl _, .refl _, trivial⟩ ?_
    rw [hasC, at_none (by omega)]
    exact And.intro rfl rfl
  have c1 := of_decide_eq_false c1
  obtain ⟨m, rfl⟩ := Int.eq_ofNat_of_zero_le (show 0 ≤ c by omega)
  refine br_intro (fun c2 => ?_) (fun c2 => ?_)
  · have c2 := of_decide_eq_true c2
    refine CallS.frzG (has_runs d hsc hse hok.parts.classes P root.t m v hc hv) rfl ⟨.refl _, .refl _, .refl _, trivial⟩ ?_
    rw [hasC, at_none (by rw [hm1] at c2; omega)]
    exact And.intro rfl rfl
  have c2 : m < d.classes.length := by have := of_decide_eq_false c2; rw [hm1] at this; omega
  obtain ⟨k, hk, hkm⟩ := get_some (R := d.classes) (i := m) c2
  have hC : hasC d m v = hasK k v := by rw [hasC, at?, if_pos (by omega), Int.toNat_natCast, hk]
  refine draw_introXS (fun _ => []) ord_5_8 (by decide +kernel) ?_
  refine opt_intro (show (d.classes.map classT)[((m : Nat) : Int).toNat]? = some (classT k) from by rw [Int.toNat_natCast, List.getElem?_map, hk]; rfl) ?_
  refine CallS.frzG (has_runs d hsc hse hok.parts.classes P root.t m v hc hv) rfl ⟨.refl _, .refl _, .refl _, trivial⟩ ?_
  rw [hC]
  obtain ⟨h, hh⟩ : ∃ h, h = hasK k v := ⟨_, rfl⟩
  rw [← hh]
  conv => whnf
  refine And.intro (fun j hj => LeX.refl _ _) ?_
  refine CallS.frzG (rhas_runs d k (hok.parts.classes k hkm) (hse k hkm) v hv) rfl ⟨.refl _, .refl _, trivial⟩ ?_
  rw [← hh]
  refine And.intro (fun j hj => by cases hj) ?_
  conv => whnf
  first
    | exact And.intro (fun j hj => by cases hj) (And.intro (congrArg (fun b => some (T.bool b)) (show (h == h) = true by cases h <;> rfl)) rfl)
    | exact And.intro (congrArg (fun b => some (T.bool b)) (show (h == h) = true by cases h <;> rfl)) rfl

end Go.Proofs.YtnjmeadmkbkikaaGreatDoor
