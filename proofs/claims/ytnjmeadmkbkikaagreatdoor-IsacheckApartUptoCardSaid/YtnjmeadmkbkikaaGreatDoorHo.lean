/-
  Check: what a description is that it lets pass (walk).
-/
import Derived.Test.YtnjmeadmkbkikaaGreatDoorHn
namespace Go.Proofs.YtnjmeadmkbkikaaGreatDoor
open Go.IntWalk
set_option maxRecDepth 100000
set_option linter.unusedVariables false
set_option linter.unusedSimpArgs false
set_option maxHeartbeats 1000000

def ord_9_21 : Ord := (.op 0 [] (.op 1 [0] (.op 2 [0] (.op 3 [2, 1, 0] (.op 4 [0] (.op 5 [0] (.op 6 [5, 4, 3, 2, 1, 0] (.op 7 [6, 5, 4, 3, 2, 1, 0] (.op 8 [7, 6, 5, 4, 3, 2, 1, 0] (.op 9 [6, 5, 4, 3, 2, 1, 0] (.op 10 [6, 5, 4, 3, 2, 1, 0] (.op 11 [10, 9, 8, 7, 6, 5, 4, 3, 2, 1, 0] (.op 12 [11, 10, 9, 8, 7, 6, 5, 4, 3, 2, 1, 0] (.op 13 [10, 9, 8, 7, 6, 5, 4, 3, 2, 1, 0] (.op 14 [10, 9, 8, 7, 6, 5, 4, 3, 2, 1, 0] (.op 15 [] (.op 16 [] .nil)))))))))))))))))

/-- A description that is right. -/
structure CheckOK (d : DescD) : Prop where
  parts : PartsOK d
  forms : ∀ f ∈ d.forms, GoodF d f
  apart : ∀ (i j : Nat) f g, i < j → d.forms[i]? = some f → d.forms[j]? = some g → ApartP d f g
def CheckS (d : DescD) (r : AV) : Prop := ∃ n e : Int, r = .tup [.t (.int .i64 n), .t (.int .i64 e)] ∧ (e = 0 → CheckOK d)
theorem CheckS.noRef {d : DescD} : ∀ r, CheckS d r → noRef r = true := by rintro r ⟨_, _, rfl, _⟩; rfl
theorem check_end {d : DescD} {n e : Int} {H : AH} (h : e = 0 → CheckOK d) : ∃ r, CheckS d r ∧ PackD r (.tup [.t (.int .i64 n), .t (.int .i64 e)]) H :=
  ⟨_, ⟨n, e, rfl, h⟩, ⟨⟨_, _, rfl, .refl _⟩, ⟨_, _, rfl, .refl _⟩, trivial⟩, rfl⟩
abbrev tPat : Nat := 75
theorem fits56 {n : Nat} (h : n ≤ 100000) : fitsRow n 56 = true := by simp [fitsRow]; omega

/-- Patterns that are found. -/
def Pats (d : DescD) (l : List T) : Prop := l.length ≤ d.forms.length ∧ ∀ k f, k < l.length → d.forms[k]? = some f → GoodF d f ∧ ∃ m0 m1 w0 w1 : Nat, l[k]? = some (patT (.vec 3 ((formBits d f).map bitT)) m0 m1 w0 w1) ∧ PatOK (formBits d f) (formBits d f).length m0 m1 w0 w1
theorem Pats.snoc {d : DescD} {l : List T} {f : FormD} {m0 m1 w0 w1 : Nat} (h : Pats d l) (hf : d.forms[l.length]? = some f) (hG : GoodF d f) (hp : PatOK (formBits d f) (formBits d f).length m0 m1 w0 w1) : Pats d (l ++ [patT (.vec 3 ((formBits d f).map bitT)) m0 m1 w0 w1]) := by
  have hl := (List.getElem?_eq_some_iff.1 hf).1
  refine ⟨by simp; omega, fun k g hk hg => ?_⟩
  by_cases e : k < l.length
  · rw [List.getElem?_append_left e]; exact h.2 k g e hg
  · have e2 : k = l.length := by simp at hk; omega
    subst e2
    rw [hf] at hg
    obtain rfl := Option.some.inj hg
    exact ⟨hG, m0, m1, w0, w1, by simp, hp⟩

theorem check_runs (d : DescD) (hd : d.ok) (hs : ∀ f ∈ d.forms, sumL f.pieces ≤ 2000000000000) : RunsX Tryz.prog 9 [descT d] (CheckS d) := by
  have hforms : ∀ f ∈ d.forms, f.ok := hd.2.2.2.2.2.2.2.2.2.2.2.1
  have hpr := parts_runs d hd
  have hrr := rest_runs d hd
  have hmF : (d.forms.map formT).length = d.forms.length := by simp
  refine RunsX.of_call ?_ CheckS.noRef
  refine CallS.of_fn tabS_ok regS_ok Tryz.func9 rfl rfl ?_
  refine CallS.frzX hpr rfl ⟨.refl _, trivial⟩ ?_
  rintro _ ⟨bp, rfl, hp⟩
  refine br_intro (fun c1 => ?_) (fun c1 => ?_)
  · exact check_end fun h => by cases h
  have hp := hp (by simpa using c1)
  have hfl : d.forms.length ≤ 512 := hp.fl
  refine loop_then (fun e s' => (e = .exit 0 ∧ ∃ (P : List T), Pats d P ∧ P.length = d.forms.length ∧ s' = ⟨[(21, .t (.bool (decide ((P.length : Int) < ((d.forms.map formT).length : Int))))), (1, .ptr 0 0 0 0), (4, .ptr 1 0 0 0), (5, .sl 2 0 0 P.length), (18, .t (.vecd 5 (d.forms.map formT))), (19, .t (.int .i64 ((d.forms.map formT).length : Int))), (20, .t (.int .i64 P.length))], [.box (descC d), .box (descC d), .arr tPat 5 true 0 (.ts P)]⟩) ∨
    (e = .ret ∧ ∃ env H n k, s' = ⟨(3, .t (.int .i64 k)) :: (2, .t (.int .i64 n)) :: env, H⟩ ∧ k ≠ 0)) (fun Q' hq => ?_) ?_
  · refine loop_on (fun P : List T => Pats d P) (fun P => ⟨[(1, .ptr 0 0 0 0), (4, .ptr 1 0 0 0), (5, .sl 2 0 0 P.length), (18, .t (.vecd 5 (d.forms.map formT))), (19, .t (.int .i64 ((d.forms.map formT).length : Int))), (20, .t (.int .i64 P.length))], [.box (descC d), .box (descC d), .arr tPat 5 true 0 (.ts P)]⟩)
      (fun P => d.forms.length - P.length) [] ⟨Nat.zero_le _, fun k f h => absurd h (Nat.not_lt_zero _)⟩ ?_ (fun P hP => ?_)
    · exact weak_of ⟨rfl, rfl, rfl, rfl, rfl, rfl, trivial⟩ rfl
    refine br_intro (fun c => ?_) (fun c => ?_)
    · have c : P.length < d.forms.length := by have := dlt c; omega
      obtain ⟨f, hf, hfm⟩ := get_some (R := d.forms) (i := P.length) c
      have hfok := hforms f hfm
      refine opt_intro (show (d.forms.map formT)[((P.length : Nat) : Int).toNat]? = some (formT f) from by rw [Int.toNat_natCast, List.getElem?_map, hf]; rfl) ?_
      refine CallS.frzX (pattern_runs d f hd hfok (hs f hfm)) rfl ⟨.refl _, .refl _, trivial⟩ ?_
      rintro _ (rfl | ⟨m0, m1, w0, w1, rfl, hG, hO⟩)
      · exact hq _ _ (.inr ⟨rfl, _, _, _, _, rfl, by decide⟩)
      have hall : RunsX Tryz.prog 25 [.vecd 5 f.sem, .fn (.func 26) [] [ckP d, fmP f]] (YesS (∀ x ∈ f.sem, True)) :=
        all_Term_02 _ (ckP d) (fmP f) f.sem (fun _ => True) (maxLen_le hfok.2.2.2.2.2.2.1) (hfok.2.2.2.2.2.2.2) fun x hx => effectC_runs d f (hfok.2.2.2.2.2.2.2 x hx)
      refine Or.inl (And.intro (by simp [Sq.length]) (ck_intro (fits56 (n := P.length + 1) (by omega)) ?_))
      refine CallS.snapX hall rfl ⟨.refl _, .refl _, trivial⟩ YesS.flat ?_
      rintro _ ⟨ba, rfl, _⟩
      refine br_intro (fun c2 => ?_) (fun c2 => ?_)
      · exact hq _ _ (.inr ⟨rfl, _, _, _, _, rfl, by decide⟩)
      obtain ⟨z, hz⟩ : ∃ z, z = patT (.vec 3 ((formBits d f).map bitT)) m0 m1 w0 w1 := ⟨_, rfl⟩
      have eN : P.length + 1 = (P ++ [z]).length := by simp
      refine st_intro (n := ((P.length + 1 : Nat) : Int)) (nat_in (n := P.length + 1) (by omega)) ?_
      conv => whnf
      exact ⟨⟨P ++ [z], by rw [hz]; exact hP.snoc hf hG hO⟩, weak_gc [0, 1, 2] rfl ⟨rfl, rfl, (show some (AV.sl 2 0 0 (P.length + 1)) = some (AV.sl 2 0 0 (P ++ [z]).length) from by rw [eN]), rfl, rfl, (show some (AV.t (.int .i64 ((P.length + 1 : Nat) : Int))) = some (AV.t (.int .i64 (((P ++ [z]).length : Nat) : Int))) from by rw [eN]), trivial⟩ ⟨rfl, rfl, (show some (Blk.arr tPat 5 true 0 (.ts (P ++ [patT (.vec 3 ((formBits d f).map bitT)) m0 m1 w0 w1]))) = some (Blk.arr tPat 5 true 0 (.ts (P ++ [z]))) from by rw [hz]), trivial⟩, by show d.forms.length - (P ++ [z]).length < d.forms.length - P.length; rw [← eN]; omega⟩
    · have c : P.length = d.forms.length := by have := dge c; have := hP.1; omega
      exact hq _ _ (.inl ⟨rfl, P, hP, c, rfl⟩)
  rintro _ _ (⟨rfl, P, hP, hPl, rfl⟩ | ⟨rfl, env, H, n, k, rfl, hk⟩)
  rotate_left 1
  · exact check_end fun h => absurd h hk
  refine loop_then (fun e s' => (e = .exit 2 ∧ (∀ (i j : Nat) f g, i < j → d.forms[i]? = some f → d.forms[j]? = some g → ApartP d f g) ∧ ∃ b env, s' = ⟨(47, b) :: (4, .ptr 1 0 0 0) :: env, [.box (descC d), .box (descC d), .arr tPat 5 true 0 (.ts P)]⟩) ∨
    (e = .ret ∧ ∃ env H n k, s' = ⟨(3, .t (.int .i64 k)) :: (2, .t (.int .i64 n)) :: env, H⟩ ∧ k ≠ 0)) (fun Q' hq => ?_) ?_
  · refine loop_on (fun j : Nat => j ≤ d.forms.length ∧ ∀ (i' j' : Nat) f g, i' < j' → j' < j → d.forms[i']? = some f → d.forms[j']? = some g → ApartP d f g) (fun j => ⟨[(4, .ptr 1 0 0 0), (1, .ptr 0 0 0 0), (5, .sl 2 0 0 P.length), (44, .t (.vecd 5 (d.forms.map formT))), (45, .t (.int .i64 ((d.forms.map formT).length : Int))), (46, .t (.int .i64 j))], [.box (descC d), .box (descC d), .arr tPat 5 true 0 (.ts P)]⟩)
      (fun j => d.forms.length - j) 0 ⟨Nat.zero_le _, fun _ _ _ _ _ h => absurd h (Nat.not_lt_zero _)⟩ ?_ (fun j ⟨hj, hA⟩ => ?_)
    · exact weak_of ⟨rfl, rfl, rfl, rfl, rfl, rfl, trivial⟩ rfl
    refine br_intro (fun c => ?_) (fun c => ?_)
    · have c : j < d.forms.length := by have := dlt c; omega
      obtain ⟨g, hg, hgm⟩ := get_some (R := d.forms) (i := j) c
      obtain ⟨hgG, b0, b1, v0, v1, hgP, hgO⟩ := hP.2 j g (by omega) hg
      refine opt_intro (show (d.forms.map formT)[((j : Nat) : Int).toNat]? = some (formT g) from by rw [Int.toNat_natCast, List.getElem?_map, hg]; rfl) ?_
      refine loop_then (fun e s' => (e = .exit 4 ∧ (∀ (i' : Nat) f, i' < j → d.forms[i']? = some f → ApartP d f g) ∧ ∃ i : Nat, s' = ⟨[(53, .t (.bool (decide ((i : Int) < (j : Int))))), (4, .ptr 1 0 0 0), (1, .ptr 0 0 0 0), (5, .sl 2 0 0 P.length), (44, .t (.vecd 5 (d.forms.map formT))), (45, .t (.int .i64 ((d.forms.map formT).length : Int))), (46, .t (.int .i64 j)), (9, .t (.int .i64 j)), (10, .ptr 3 0 0 0), (51, .t (.int .i64 j)), (52, .t (.int .i64 i))], [.box (descC d), .box (descC d), .arr tPat 5 true 0 (.ts P), .box (formC g)]⟩) ∨
        (e = .ret ∧ ∃ env H n k, s' = ⟨(3, .t (.int .i64 k)) :: (2, .t (.int .i64 n)) :: env, H⟩ ∧ k ≠ 0)) (fun Q2 hq2 => ?_) ?_
      · refine loop_on (fun i : Nat => i ≤ j ∧ ∀ (i' : Nat) f, i' < i → d.forms[i']? = some f → ApartP d f g) (fun i => ⟨[(4, .ptr 1 0 0 0), (1, .ptr 0 0 0 0), (5, .sl 2 0 0 P.length), (44, .t (.vecd 5 (d.forms.map formT))), (45, .t (.int .i64 ((d.forms.map formT).length : Int))), (46, .t (.int .i64 j)), (9, .t (.int .i64 j)), (10, .ptr 3 0 0 0), (51, .t (.int .i64 j)), (52, .t (.int .i64 i))], [.box (descC d), .box (descC d), .arr tPat 5 true 0 (.ts P), .box (formC g)]⟩)
          (fun i => j - i) 0 ⟨Nat.zero_le _, fun _ _ h => absurd h (Nat.not_lt_zero _)⟩ ?_ (fun i ⟨hi, hI⟩ => ?_)
        · exact weak_of ⟨rfl, rfl, rfl, rfl, rfl, rfl, rfl, rfl, rfl, rfl, trivial⟩ rfl
        refine br_intro (fun c3 => ?_) (fun c3 => ?_)
        · have c3 : i < j := by have := of_decide_eq_true c3; omega
          obtain ⟨f, hf, hfm⟩ := get_some (R := d.forms) (i := i) (by omega)
          obtain ⟨hfG, a0, a1, u0, u1, hfP, hfO⟩ := hP.2 i f (by omega) hf
          refine draw_introS ord_9_21 (by decide +kernel) ?_
          refine opt_intro (show (d.forms.map formT)[((i : Nat) : Int).toNat]? = some (formT f) from by rw [Int.toNat_natCast, List.getElem?_map, hf]; rfl) ?_
          refine ck_intro (inB0 rfl (by omega)) ?_
          refine opt_intro (show P[0 + i]? = _ from by rw [Nat.zero_add]; exact hfP) ?_
          refine ck_intro (inB0 rfl (by omega)) ?_
          refine opt_intro (show P[0 + j]? = _ from by rw [Nat.zero_add]; exact hgP) ?_
          refine CallS.frzX (apart_runs d f g hd hfG hgG hfO hgO) rfl ⟨.refl _, .refl _, .refl _, .refl _, .refl _, trivial⟩ ?_
          rintro _ ⟨ba, rfl, pa⟩
          refine And.intro (fun j hj => by first | (cases hj; done) | exact LeX.append _ _ _ | exact LeX.refl _ _) ?_
          refine br_intro (fun c4 => ?_) (fun c4 => ?_)
          · exact hq2 _ _ (.inr ⟨rfl, _, _, _, _, rfl, by decide⟩)
          have pa := pa (by simpa using c4)
          refine st_intro (n := ((i + 1 : Nat) : Int)) (nat_in (n := i + 1) (by omega)) ?_
          conv => whnf
          exact ⟨⟨i + 1, c3, fun i' f' h' hf' => by
            by_cases e : i' = i
            · subst e
              rw [hf] at hf'
              obtain rfl := Option.some.inj hf'
              exact pa
            · exact hI i' f' (by omega) hf'⟩, weak_gc [0, 1, 2, 3] rfl ⟨rfl, rfl, rfl, rfl, rfl, rfl, rfl, rfl, rfl, rfl, trivial⟩ ⟨rfl, rfl, rfl, rfl, trivial⟩, by show j - (i + 1) < j - i; omega⟩
        · have c3 : i = j := by have := of_decide_eq_false c3; omega
          exact hq2 _ _ (.inl ⟨rfl, fun i' f' h' => hI i' f' (by omega), i, rfl⟩)
      rintro _ _ (⟨rfl, hI, i, rfl⟩ | ⟨rfl, env, H, n, k, rfl, hk⟩)
      · refine st_intro (n := ((j + 1 : Nat) : Int)) (nat_in (n := j + 1) (by omega)) ?_
        conv => whnf
        exact ⟨⟨j + 1, c, fun i' j' f' g' h1 h2 hf' hg' => by
          by_cases e : j' = j
          · subst e
            rw [hg] at hg'
            obtain rfl := Option.some.inj hg'
            exact hI i' f' h1 hf'
          · exact hA i' j' f' g' h1 (by omega) hf' hg'⟩, weak_gc [0, 1, 2] rfl ⟨rfl, rfl, rfl, rfl, rfl, rfl, trivial⟩ ⟨rfl, rfl, rfl, trivial⟩, by show d.forms.length - (j + 1) < d.forms.length - j; omega⟩
      · exact hq _ _ (.inr ⟨rfl, _, _, _, _, rfl, hk⟩)
    · have c : j = d.forms.length := by have := dge c; omega
      exact hq _ _ (.inl ⟨rfl, fun i' j' f' g' h1 hf' hg' => hA i' j' f' g' h1 (by have := (List.getElem?_eq_some_iff.1 hg').1; omega) hf' hg', _, _, rfl⟩)
  rintro _ _ (⟨rfl, hA, b0, env, rfl⟩ | ⟨rfl, env, H, n, k, rfl, hk⟩)
  rotate_left 1
  · exact check_end fun h => absurd h hk
  refine CallS.frzX hrr rfl ⟨.refl _, trivial⟩ ?_
  rintro _ ⟨br, rfl, _⟩
  refine br_intro (fun c5 => ?_) (fun c5 => ?_)
  · exact check_end fun h => by cases h
  · exact check_end fun _ => ⟨hp, fun f hf => by
      obtain ⟨k, hk⟩ := List.getElem?_of_mem hf
      exact (hP.2 k f (by have := (List.getElem?_eq_some_iff.1 hk).1; omega) hk).1, hA⟩

end Go.Proofs.YtnjmeadmkbkikaaGreatDoor
