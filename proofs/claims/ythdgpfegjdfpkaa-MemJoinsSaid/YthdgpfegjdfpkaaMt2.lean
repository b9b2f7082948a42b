/-
  The merge of two sorted rows (walk).
-/
import Derived.Test.YthdgpfegjdfpkaaMs
namespace Go.Proofs.Ythdgpfegjdfpkaa
open Go.IntWalk
set_option maxRecDepth 100000
set_option linter.unusedVariables false
set_option linter.unusedSimpArgs false
set_option maxHeartbeats 2000000

theorem sym2_calls (N : Nat) (hl : N ≤ 1000000) (R : List RegD) (hN : R.length = N) (a m b : Nat) (h1 : a < m) (h2 : m < b) (h3 : b ≤ N) (hm : m - a ≠ 1) (hb : b - m = 1) :
    CallS Try.prog 22 [.sl 1 0 0 N, .t (.int .i64 a), .t (.int .i64 m), .t (.int .i64 b), cmpF] (srtH N R) (SrtQ N R) := by
  refine CallS.of_fn tabS_ok regS_ok Try.func22 rfl rfl ?_
  refine st_intro (n := ((m - a : Nat) : Int)) (nat_sub (a := m - a) (b := a) (c := m) (by omega) (by omega)) ?_
  refine br_intro (fun c0 => absurd (c0.symm.trans (eq_no hm)) (by decide)) (fun c0 => ?_)
  refine st_intro (n := ((b - m : Nat) : Int)) (nat_sub (a := b - m) (b := m) (c := b) (by omega) (by omega)) ?_
  refine br_intro (fun c0 => ?_) (fun c0 => absurd (c0.symm.trans (eq_yes hb)) (by decide))
  refine loop_then (fun e s' => e = .exit 4 ∧ ∃ i j : Nat, (a ≤ i ∧ i ≤ m) ∧ s' = ⟨[(85, .t (.bool (decide ((i : Int) < (j : Int))))), (84, .t (.int .i64 j)), (83, .t (.int .i64 i)), (0, .sl 1 0 0 N), (1, .t (.int .i64 a)), (2, .t (.int .i64 m)), (3, .t (.int .i64 b)), (4, cmpF), (14, .t (.int .i64 i)), (15, .t (.int .i64 j))], srtH N R⟩) (fun Q' hq => ?_) ?_
  · refine loop_on (fun s : Nat × Nat => a ≤ s.1 ∧ s.1 ≤ s.2 ∧ s.2 ≤ m) (fun s => ⟨[(0, .sl 1 0 0 N), (1, .t (.int .i64 a)), (2, .t (.int .i64 m)), (3, .t (.int .i64 b)), (4, cmpF), (14, .t (.int .i64 s.1)), (15, .t (.int .i64 s.2))], srtH N R⟩)
      (fun s => s.2 - s.1) (a, m) ⟨Nat.le_refl _, by show a ≤ m; omega, Nat.le_refl _⟩ ?_ (fun ⟨i, j⟩ hi => ?_)
    · exact weak_of ⟨rfl, rfl, rfl, rfl, rfl, rfl, rfl, trivial⟩ rfl
    have hi : a ≤ i ∧ i ≤ j ∧ j ≤ m := hi
    obtain ⟨hi1, hi2, hi3⟩ := hi
    refine br_intro (fun c => ?_) (fun c => ?_)
    · have c : i < j := dlt c
      obtain ⟨zh, hzh⟩ : ∃ z, z = i + j := ⟨_, rfl⟩
      obtain ⟨h, hh⟩ : ∃ h, h = zh / 2 := ⟨_, rfl⟩
      refine st_intro (n := ((zh : Nat) : Int)) ((nat_in (n := i + j) (by omega)).trans (by rw [hzh])) ?_
      refine st_intro (n := ((zh : Nat) : Int)) (nat_inu (n := zh) (by omega)) ?_
      refine st_intro (n := ((h : Nat) : Int)) ((half_u (n := zh) (by omega)).trans (by rw [hh])) ?_
      refine st_intro (n := ((h : Nat) : Int)) (nat_in (n := h) (by omega)) ?_
      obtain ⟨x, hx, hxm⟩ := get_some (R := R) (i := m) (by omega)
      obtain ⟨y, hy, hym⟩ := get_some (R := R) (i := h) (by omega)
      obtain ⟨q, hq2⟩ := cmp_runs x y
      refine draw_introS ord_sym_17 (by decide +kernel) ?_
      refine ck_intro (inB0 rfl (by omega)) ?_
      refine opt_intro (map_get0 hx) ?_
      refine ck_intro (inB0 rfl (by omega)) ?_
      refine opt_intro (map_get0 hy) ?_
      refine CallS.pure hq2 rfl ?_
      refine And.intro (fun j hj => by cases hj) ?_
      refine br_intro (fun c3 => ?_) (fun c3 => ?_)
      · refine st_intro (n := ((h + 1 : Nat) : Int)) (nat_in (n := h + 1) (by omega)) ?_
        conv => whnf
        exact ⟨⟨(h + 1, j), ⟨by show a ≤ h + 1; omega, by show h + 1 ≤ j; omega, hi3⟩⟩, weak_of ⟨rfl, rfl, rfl, rfl, rfl, rfl, rfl, trivial⟩ rfl, by show j - (h + 1) < j - i; omega⟩
      · conv => whnf
        exact ⟨⟨(i, h), ⟨hi1, by show i ≤ h; omega, by show h ≤ m; omega⟩⟩, weak_of ⟨rfl, rfl, rfl, rfl, rfl, rfl, rfl, trivial⟩ rfl, by show h - i < j - i; omega⟩
    · exact hq _ _ ⟨rfl, i, j, ⟨hi1, by omega⟩, rfl⟩
  rintro _ _ ⟨rfl, i, j, ⟨hi1, hi2⟩, rfl⟩
  refine loop_on (fun s : Nat × List RegD => s.1 ≤ m ∧ Pm R s.2) (fun s => ⟨[(0, .sl 1 0 0 N), (1, .t (.int .i64 a)), (2, .t (.int .i64 m)), (3, .t (.int .i64 b)), (4, cmpF), (14, .t (.int .i64 i)), (17, .t (.int .i64 s.1))], srtH N s.2⟩)
    (fun s => s.1) (m, R) ⟨by show m ≤ m; omega, .refl R⟩ ?_ (fun ⟨j2, R2⟩ hj => ?_)
  · exact weak_of ⟨rfl, rfl, rfl, rfl, rfl, rfl, rfl, trivial⟩ rfl
  have hj : j2 ≤ m ∧ Pm R R2 := hj
  obtain ⟨hj2, hp⟩ := hj
  have hl2 : R2.length = N := hp.len.trans hN
  refine br_intro (fun c4 => ?_) (fun c4 => ?_)
  · have c4 : i < j2 := dgt c4
    obtain ⟨x, hx, hxm⟩ := get_some (R := R2) (i := j2) (by omega)
    obtain ⟨y, hy, hym⟩ := get_some (R := R2) (i := j2 - 1) (by omega)
    refine draw_introXS (dSw [2, 3, 4]) ord_sym_23 (by decide +kernel) ?_
    refine st_intro (n := ((j2 - 1 : Nat) : Int)) (nat_sub (a := j2 - 1) (b := 1) (c := j2) (by omega) (by omega)) ?_
    refine st_intro (n := ((j2 - 1 : Nat) : Int)) (nat_sub (a := j2 - 1) (b := 1) (c := j2) (by omega) (by omega)) ?_
    refine ck_intro (inB0 rfl (by omega)) ?_
    refine opt_intro (map_get0 hy) ?_
    refine ck_intro (inB0 rfl (by omega)) ?_
    refine opt_intro (map_get0 hx) ?_
    refine ck_intro (inB0 rfl (by omega)) ?_
    refine opt_intro (map_get0 hx) ?_
    conv => whnf
    refine And.intro (fun j hj => by
      simp only [List.mem_cons, List.not_mem_nil, or_false] at hj
      rcases hj with rfl | rfl | rfl <;> exact LeX.set _ (List.mem_singleton.2 rfl)) ?_
    refine ck_intro (inB0 rfl (by omega)) ?_
    refine opt_intro (map_get1 hy (by omega)) ?_
    conv => whnf
    refine And.intro (fun j hj => by cases hj) ?_
    conv => whnf
    refine st_intro (n := ((j2 - 1 : Nat) : Int)) (nat_sub (a := j2 - 1) (b := 1) (c := j2) (by omega) (by omega)) ?_
    conv => whnf
    refine ⟨⟨(j2 - 1, swapL R2 j2 (j2 - 1) y x), ⟨by show j2 - 1 ≤ m; omega, hp.trans (.swap hym hxm)⟩⟩, weak_of ⟨rfl, rfl, rfl, rfl, rfl, rfl, rfl, trivial⟩ ?_, by show j2 - 1 < j2; omega⟩
    show [_, Blk.arr tEl 3 true 0 (.ts (((R2.map regT).set (0 + j2) (regT y)).set (0 + (j2 - 1)) (regT x)))] = _
    rw [Nat.zero_add, Nat.zero_add, swapL_map]
    rfl
  · exact ⟨rfl, R2, hp, rfl⟩

end Go.Proofs.Ythdgpfegjdfpkaa
