/-
  Aliases, classes, parts of a description.
-/
import Derived.Test.YtnjmeadmkbkikaaGreatDoorHa
namespace Go.Proofs.YtnjmeadmkbkikaaGreatDoor
open Go.IntWalk
set_option maxRecDepth 100000
set_option linter.unusedVariables false
set_option linter.unusedSimpArgs false
set_option maxHeartbeats 1000000

def ord_48_1 : Ord := (.op 0 [] (.op 1 [] (.op 2 [1, 0] (.op 3 [1, 0] (.op 4 [1, 0] (.op 5 [1, 0] (.op 6 [] (.op 7 [] (.op 8 [] (.op 9 [] (.op 10 [9, 8] (.op 11 [9, 8] (.op 12 [9, 8] (.op 13 [12, 11, 10, 9, 8] (.op 14 [12, 11, 10, 9, 8] (.op 15 [9, 8] (.op 16 [9, 8] (.op 17 [9, 8] (.op 18 [] (.op 19 [] (.op 20 [] .nil)))))))))))))))))))))
def ord_50_3 : Ord := (.op 0 [] (.op 1 [] (.op 2 [1, 0] (.op 3 [1, 0] (.op 4 [1, 0] (.op 5 [1, 0] (.op 6 [] (.op 7 [] (.op 8 [] (.op 9 [] (.op 10 [] (.op 11 [10, 9, 8] (.op 12 [10, 9, 8] (.op 13 [] (.op 14 [] (.op 15 [] (.op 16 [] (.op 17 [] (.op 18 [] (.op 19 [] (.op 20 [] (.op 21 [] (.op 22 [] (.op 23 [] (.op 24 [] (.op 25 [] (.op 26 [] (.op 27 [] (.op 28 [] (.op 29 [] (.op 30 [] (.op 31 [] (.op 32 [] (.op 33 [] (.op 34 [] (.op 35 [] (.op 36 [] (.op 37 [] (.op 38 [] (.op 39 [] (.op 40 [] (.op 41 [] (.op 42 [] (.op 43 [] (.op 44 [] (.op 45 [44, 43] (.op 46 [44, 43] (.op 47 [44, 43] (.op 48 [] (.op 49 [] (.op 50 [49, 48, 47, 46, 45, 44, 43] (.op 51 [49, 48, 47, 46, 45, 44, 43] (.op 52 [49, 48, 47, 46, 45, 44, 43] (.op 53 [52, 51, 50, 49, 48, 47, 46, 45, 44, 43] (.op 54 [52, 51, 50, 49, 48, 47, 46, 45, 44, 43] (.op 55 [49, 48, 47, 46, 45, 44, 43] (.op 56 [49, 48, 47, 46, 45, 44, 43] (.op 57 [49, 48, 47, 46, 45, 44, 43] (.op 58 [] (.op 59 [] (.op 60 [] .nil)))))))))))))))))))))))))))))))))))))))))))))))))))))))))))))

theorem no_end {P : Prop} {H : AH} : ∃ r, YesS P r ∧ PackD r (.t (.bool false)) H := ⟨_, ⟨false, rfl, fun h => by cases h⟩, _, _, rfl, .refl _⟩
theorem yes_end {P : Prop} {H : AH} {b : Bool} (h : b = true → P) : ∃ r, YesS P r ∧ PackD r (.t (.bool b)) H := ⟨_, ⟨b, rfl, h⟩, _, _, rfl, .refl _⟩

theorem alias_runs (d : DescD) (x : AliasD) : RunsX Tryz.prog 56 [descT d, aliasT x] (YesS True) := by
  refine RunsX.of_call ?_ YesS.noRef
  refine CallS.of_fn tabS_ok regS_ok Tryz.func56 rfl rfl ?_
  refine draw_introS ord_48_1 (by decide +kernel) ?_
  refine CallS.pure (among_runs _ _) rfl ?_
  refine And.intro (fun j hj => by first | (cases hj; done) | exact LeX.append _ _ _ | exact LeX.refl _ _) ?_
  refine br_intro (fun c => ?_) (fun c => ?_)
  · have h := am1 c
    obtain ⟨f, _, _, hf⟩ := at_some h
    refine ck_intro (ix0 rfl h.1) ?_
    refine opt_intro (row_get hf) ?_
    refine CallS.pure (among_runs _ _) rfl ?_
    refine And.intro (fun j hj => by first | (cases hj; done) | exact LeX.append _ _ _ | exact LeX.refl _ _) ?_
    refine And.intro (fun j hj => by first | (cases hj; done) | exact LeX.append _ _ _ | exact LeX.refl _ _) ?_
    exact yes_end fun _ => trivial
  · refine And.intro (fun j hj => by first | (cases hj; done) | exact LeX.append _ _ _ | exact LeX.refl _ _) ?_
    refine And.intro (fun j hj => by first | (cases hj; done) | exact LeX.append _ _ _ | exact LeX.refl _ _) ?_
    exact no_end

/-- A class that is right. -/
def ClassOK (d : DescD) (k : ClassD) : Prop :=
  (k.kind = 1 ∧ (1 ≤ k.bits ∧ k.bits ≤ 6) ∧ k.shift = 0 ∧ 0 ≤ k.plus ∧ k.plus < 64 ∧ ∃ fl, at? d.files k.file = some fl ∧ fl.fine ∧ k.plus + 2 ^ k.bits.toNat - 1 < fl.count) ∨
  (k.kind = 2 ∧ (1 ≤ k.bits ∧ k.bits ≤ 62) ∧ (0 ≤ k.shift ∧ k.shift ≤ 62 - k.bits) ∧ k.plus = 0) ∨
  ((k.kind = 3 ∨ k.kind = 4 ∨ k.kind = 5) ∧ (1 ≤ k.bits ∧ k.bits ≤ 64) ∧ (0 ≤ k.shift ∧ k.shift ≤ 64 - k.bits) ∧ k.plus = 0)

theorem class_runs (d : DescD) (k : ClassD) : RunsX Tryz.prog 58 [descT d, classT k] (YesS (ClassOK d k)) := by
  refine RunsX.of_call ?_ YesS.noRef
  refine CallS.of_fn tabS_ok regS_ok Tryz.func58 rfl rfl ?_
  refine br_intro (fun c => ?_) (fun c1 => ?_)
  · have k1 : k.kind = 1 := by simpa using c
    refine draw_introS ord_50_3 (by decide +kernel) ?_
    refine CallS.pure (among_runs _ _) rfl ?_
    refine And.intro (fun j hj => by first | (cases hj; done) | exact LeX.append _ _ _ | exact LeX.refl _ _) ?_
    refine br_intro (fun c => ?_) (fun c => ?_)
    · have h := am1 c
      obtain ⟨f, haf, _, hf⟩ := at_some h
      refine ck_intro (ix0 rfl h.1) ?_
      refine opt_intro (row_get hf) ?_
      refine CallS.pure (file_runs f) rfl ?_
      refine And.intro (fun j hj => by first | (cases hj; done) | exact LeX.append _ _ _ | exact LeX.refl _ _) ?_
      refine br_intro (fun cf => ?_) (fun _ => ?_)
      rotate_left 1
      · refine And.intro (fun j hj => by first | (cases hj; done) | exact LeX.append _ _ _ | exact LeX.refl _ _) ?_
        exact no_end
      refine br_intro (fun b1 => ?_) (fun _ => ?_)
      rotate_left 1
      · refine And.intro (fun j hj => by first | (cases hj; done) | exact LeX.append _ _ _ | exact LeX.refl _ _) ?_
        exact no_end
      have b1 : 1 ≤ k.bits := by simpa using b1
      refine br_intro (fun b2 => ?_) (fun _ => ?_)
      rotate_left 1
      · refine And.intro (fun j hj => by first | (cases hj; done) | exact LeX.append _ _ _ | exact LeX.refl _ _) ?_
        exact no_end
      have b2 : k.bits ≤ 6 := by simpa using b2
      refine br_intro (fun s0 => ?_) (fun _ => ?_)
      rotate_left 1
      · refine And.intro (fun j hj => by first | (cases hj; done) | exact LeX.append _ _ _ | exact LeX.refl _ _) ?_
        exact no_end
      have s0 : k.shift = 0 := by simpa using s0
      refine br_intro (fun p0 => ?_) (fun _ => ?_)
      rotate_left 1
      · refine And.intro (fun j hj => by first | (cases hj; done) | exact LeX.append _ _ _ | exact LeX.refl _ _) ?_
        exact no_end
      have p0 : 0 ≤ k.plus := by simpa using p0
      refine br_intro (fun p1 => ?_) (fun _ => ?_)
      rotate_left 1
      · refine And.intro (fun j hj => by first | (cases hj; done) | exact LeX.append _ _ _ | exact LeX.refl _ _) ?_
        exact no_end
      have p1 : k.plus < 64 := by simpa using p1
      have hpw : 2 ^ k.bits.toNat ≤ 2 ^ 6 := Nat.pow_le_pow_right (by decide) (by omega)
      have hpi : ((2 ^ k.bits.toNat : Nat) : Int) = 2 ^ k.bits.toNat := by rw [Int.natCast_pow]; rfl
      obtain ⟨g1, hg1⟩ : ∃ g : Nat, g = 2 ^ k.bits.toNat := ⟨_, rfl⟩
      rw [← hg1] at hpw hpi
      refine ck_intro (decide_eq_true (show (0 : Int) ≤ k.bits by omega)) ?_
      refine st_intro (n := (g1 : Int)) (show IntKind.i64.wrap (1 * 2 ^ (min (Int.toNat k.bits) IntKind.i64.bits)) = (g1 : Int) from by
        rw [Nat.min_eq_left (show k.bits.toNat ≤ IntKind.i64.bits by show _ ≤ 64; omega), ← hpi, IntKind.wrap_i64]; omega) ?_
      obtain ⟨g2, hg2⟩ : ∃ g, g = k.plus + (g1 : Int) := ⟨_, rfl⟩
      obtain ⟨g3, hg3⟩ : ∃ g, g = g2 - 1 := ⟨_, rfl⟩
      refine st_intro (n := g2) (by rw [IntKind.wrap_i64]; omega) ?_
      refine st_intro (n := g3) (by rw [IntKind.wrap_i64]; omega) ?_
      refine ck_intro (ix0 rfl h.1) ?_
      refine opt_intro (row_get hf) ?_
      refine And.intro (fun j hj => by first | (cases hj; done) | exact LeX.append _ _ _ | exact LeX.refl _ _) ?_
      exact yes_end fun hc => .inl ⟨k1, ⟨b1, b2⟩, s0, p0, p1, f, haf, of_decide_eq_true cf, by have := of_decide_eq_true hc; rw [← hpi]; omega⟩
    · refine And.intro (fun j hj => by first | (cases hj; done) | exact LeX.append _ _ _ | exact LeX.refl _ _) ?_
      refine And.intro (fun j hj => by first | (cases hj; done) | exact LeX.append _ _ _ | exact LeX.refl _ _) ?_
      exact no_end
  have n1 : ¬ k.kind = 1 := by simpa using c1
  refine br_intro (fun c => ?_) (fun c2 => ?_)
  · have k2 : k.kind = 2 := by simpa using c
    refine br_intro (fun b1 => ?_) (fun _ => ?_)
    rotate_left 1
    · exact no_end
    have b1 : 1 ≤ k.bits := by simpa using b1
    refine br_intro (fun b2 => ?_) (fun _ => ?_)
    rotate_left 1
    · exact no_end
    have b2 : k.bits ≤ 62 := by simpa using b2
    refine br_intro (fun s0 => ?_) (fun _ => ?_)
    rotate_left 1
    · exact no_end
    have s0 : 0 ≤ k.shift := by simpa using s0
    refine st_intro (n := 62 - k.bits) (i64_int (by omega) (by omega)) ?_
    refine br_intro (fun s1 => ?_) (fun _ => ?_)
    rotate_left 1
    · exact no_end
    have s1 : k.shift ≤ 62 - k.bits := by simpa using s1
    exact yes_end fun h => .inr (.inl ⟨k2, ⟨b1, b2⟩, ⟨s0, s1⟩, by simpa using h⟩)
  refine br_intro (fun c => ?_) (fun c2 => ?_)
  · have k3 : k.kind = 3 ∨ k.kind = 4 ∨ k.kind = 5 := .inl (by simpa using c)
    refine br_intro (fun _ => ?_) (fun c' => absurd (c.symm.trans c') (by decide))
    refine br_intro (fun b1 => ?_) (fun _ => ?_)
    rotate_left 1
    · exact no_end
    have b1 : 1 ≤ k.bits := by simpa using b1
    refine br_intro (fun b2 => ?_) (fun _ => ?_)
    rotate_left 1
    · exact no_end
    have b2 : k.bits ≤ 64 := by simpa using b2
    refine br_intro (fun s0 => ?_) (fun _ => ?_)
    rotate_left 1
    · exact no_end
    have s0 : 0 ≤ k.shift := by simpa using s0
    refine st_intro (n := 64 - k.bits) (i64_int (by omega) (by omega)) ?_
    refine br_intro (fun s1 => ?_) (fun _ => ?_)
    rotate_left 1
    · exact no_end
    have s1 : k.shift ≤ 64 - k.bits := by simpa using s1
    exact yes_end fun h => .inr (.inr ⟨k3, ⟨b1, b2⟩, ⟨s0, s1⟩, by simpa using h⟩)
  refine br_intro (fun c => ?_) (fun c2 => ?_)
  · have k3 : k.kind = 3 ∨ k.kind = 4 ∨ k.kind = 5 := .inr (.inl (by simpa using c))
    refine br_intro (fun _ => ?_) (fun c' => absurd (c.symm.trans c') (by decide))
    refine br_intro (fun b1 => ?_) (fun _ => ?_)
    rotate_left 1
    · exact no_end
    have b1 : 1 ≤ k.bits := by simpa using b1
    refine br_intro (fun b2 => ?_) (fun _ => ?_)
    rotate_left 1
    · exact no_end
    have b2 : k.bits ≤ 64 := by simpa using b2
    refine br_intro (fun s0 => ?_) (fun _ => ?_)
    rotate_left 1
    · exact no_end
    have s0 : 0 ≤ k.shift := by simpa using s0
    refine st_intro (n := 64 - k.bits) (i64_int (by omega) (by omega)) ?_
    refine br_intro (fun s1 => ?_) (fun _ => ?_)
    rotate_left 1
    · exact no_end
    have s1 : k.shift ≤ 64 - k.bits := by simpa using s1
    exact yes_end fun h => .inr (.inr ⟨k3, ⟨b1, b2⟩, ⟨s0, s1⟩, by simpa using h⟩)
  refine br_intro (fun c => ?_) (fun c2 => ?_)
  · have k3 : k.kind = 3 ∨ k.kind = 4 ∨ k.kind = 5 := .inr (.inr (by simpa using c))
    refine br_intro (fun b1 => ?_) (fun _ => ?_)
    rotate_left 1
    · exact no_end
    have b1 : 1 ≤ k.bits := by simpa using b1
    refine br_intro (fun b2 => ?_) (fun _ => ?_)
    rotate_left 1
    · exact no_end
    have b2 : k.bits ≤ 64 := by simpa using b2
    refine br_intro (fun s0 => ?_) (fun _ => ?_)
    rotate_left 1
    · exact no_end
    have s0 : 0 ≤ k.shift := by simpa using s0
    refine st_intro (n := 64 - k.bits) (i64_int (by omega) (by omega)) ?_
    refine br_intro (fun s1 => ?_) (fun _ => ?_)
    rotate_left 1
    · exact no_end
    have s1 : k.shift ≤ 64 - k.bits := by simpa using s1
    exact yes_end fun h => .inr (.inr ⟨k3, ⟨b1, b2⟩, ⟨s0, s1⟩, by simpa using h⟩)
  exact no_end

/-- What is right of a description's parts, as far as it is needed. -/
structure PartsOK (d : DescD) : Prop where
  order : d.order = 1 ∨ d.order = 2
  classes : ∀ k ∈ d.classes, ClassOK d k
  cl : d.classes.length ≤ 64
  fl : d.forms.length ≤ 512

theorem maxLen_le {n : Nat} (h : n ≤ maxLen) : n ≤ 9223372036854775807 := h

theorem parts_runs (d : DescD) (hd : d.ok) : RunsX Tryz.prog 23 [descT d] (YesS (PartsOK d)) := by
  obtain ⟨_, _, l1, o1, l2, o2, l3, o3, l4, o4, l5, o5, l6, o6, l7, o7, l8, o8, l9, o9, l10, o10, l11, o11⟩ := hd
  have hA : RunsX Tryz.prog 53 [.vecd 4 (d.files.map fileT), .fn (.func 54) [] []] (YesS (∀ x ∈ d.files, x.fine)) :=
    all_File_00 _ d.files FileD.fine (maxLen_le l1) fun x _ => (file_runs x).yes of_decide_eq_true
  have hB : ∀ l : List AliasD, l.length ≤ maxLen → RunsX Tryz.prog 55 [.vecd 3 (l.map aliasT), .fn (.func 56) [descT d] []] (YesS (∀ x ∈ l, True)) := fun l hl =>
    all_Alias_10 _ (descT d) l (fun _ => True) (maxLen_le hl) fun x _ => alias_runs d x
  have hC : RunsX Tryz.prog 57 [.vecd 7 (d.classes.map classT), .fn (.func 58) [descT d] []] (YesS (∀ x ∈ d.classes, ClassOK d x)) :=
    all_Class_10 _ (descT d) d.classes (ClassOK d) (maxLen_le l4) fun x _ => class_runs d x
  refine RunsX.of_call ?_ YesS.noRef
  refine CallS.of_fn tabS_ok regS_ok Tryz.func23 rfl rfl ?_
  have go : (d.order = 1 ∨ d.order = 2) → True := fun _ => trivial
  refine br_intro (fun c1 => ?_) (fun c1 => ?_)
  · refine br_intro (fun c2 => ?_) (fun c2 => ?_)
    · exact no_end
    have ho : d.order = 1 ∨ d.order = 2 := .inr (by simpa using c2)
    refine br_intro (fun _ => ?_) (fun e1 => ?_)
    · exact no_end
    refine br_intro (fun _ => ?_) (fun e2 => ?_)
    · exact no_end
    refine br_intro (fun _ => ?_) (fun e3 => ?_)
    · exact no_end
    refine br_intro (fun _ => ?_) (fun e4 => ?_)
    · exact no_end
    refine CallS.pureX hA rfl ?_
    rintro _ ⟨bA, rfl, pA⟩
    refine br_intro (fun cA => ?_) (fun cA => ?_)
    rotate_left 1
    · exact no_end
    refine CallS.frzX (hB d.aliases l2) rfl ⟨.refl _, .refl _, trivial⟩ ?_
    rintro _ ⟨bB, rfl, pB⟩
    refine br_intro (fun cB => ?_) (fun cB => ?_)
    rotate_left 1
    · exact no_end
    refine CallS.frzX (hB d.regs l11) rfl ⟨.refl _, .refl _, trivial⟩ ?_
    rintro _ ⟨bR, rfl, pR⟩
    refine br_intro (fun cR => ?_) (fun cR => ?_)
    rotate_left 1
    · exact no_end
    refine CallS.frzX hC rfl ⟨.refl _, .refl _, trivial⟩ ?_
    rintro _ ⟨bC, rfl, pC⟩
    exact yes_end fun h => ⟨ho, pC (by simpa using h), by
      have := of_decide_eq_false (show decide (((d.classes.map classT).length : Int) > 64) = false from e3)
      rw [List.length_map] at this; omega, by
      have := of_decide_eq_false (show decide (((d.forms.map formT).length : Int) > 512) = false from e4)
      rw [List.length_map] at this; omega⟩
  have ho : d.order = 1 ∨ d.order = 2 := .inl (by simpa using c1)
  refine br_intro (fun _ => ?_) (fun e1 => ?_)
  · exact no_end
  refine br_intro (fun _ => ?_) (fun e2 => ?_)
  · exact no_end
  refine br_intro (fun _ => ?_) (fun e3 => ?_)
  · exact no_end
  refine br_intro (fun _ => ?_) (fun e4 => ?_)
  · exact no_end
  refine CallS.pureX hA rfl ?_
  rintro _ ⟨bA, rfl, pA⟩
  refine br_intro (fun cA => ?_) (fun cA => ?_)
  rotate_left 1
  · exact no_end
  refine CallS.frzX (hB d.aliases l2) rfl ⟨.refl _, .refl _, trivial⟩ ?_
  rintro _ ⟨bB, rfl, pB⟩
  refine br_intro (fun cB => ?_) (fun cB => ?_)
  rotate_left 1
  · exact no_end
  refine CallS.frzX (hB d.regs l11) rfl ⟨.refl _, .refl _, trivial⟩ ?_
  rintro _ ⟨bR, rfl, pR⟩
  refine br_intro (fun cR => ?_) (fun cR => ?_)
  rotate_left 1
  · exact no_end
  refine CallS.frzX hC rfl ⟨.refl _, .refl _, trivial⟩ ?_
  rintro _ ⟨bC, rfl, pC⟩
  exact yes_end fun h => ⟨ho, pC (by simpa using h), by
      have := of_decide_eq_false (show decide (((d.classes.map classT).length : Int) > 64) = false from e3)
      rw [List.length_map] at this; omega, by
      have := of_decide_eq_false (show decide (((d.forms.map formT).length : Int) > 512) = false from e4)
      rw [List.length_map] at this; omega⟩

end Go.Proofs.YtnjmeadmkbkikaaGreatDoor
