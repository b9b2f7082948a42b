/-
  The library's stable sort (walk): all of it.
-/
import Derived.Test.YthdgpfegjdfpkaaMt5
namespace Go.Proofs.Ythdgpfegjdfpkaa
open Go.IntWalk
set_option maxRecDepth 100000
set_option linter.unusedVariables false
set_option linter.unusedSimpArgs false
set_option maxHeartbeats 2000000

theorem dleq {a b : Nat} (c : decide ((a : Int) ≤ (b : Int)) = true) : a ≤ b := by have := of_decide_eq_true c; omega
theorem dgtq {a b : Nat} (c : decide ((a : Int) ≤ (b : Int)) = false) : b < a := by have := of_decide_eq_false c; omega

theorem stable_calls (N : Nat) (R : List RegD) (hN : R.length = N) (hl : N ≤ 1000000) :
    CallS Try.prog 18 [.sl 1 0 0 N, .t (.int .i64 N), cmpF] (srtH N R) (SrtQ N R) := by
  refine CallS.of_fn tabS_ok regS_ok Try.func18 rfl rfl ?_
  refine loop_then (fun e s' => e = .exit 0 ∧ ∃ (a : Nat) (R' : List RegD), a ≤ N ∧ Pm R R' ∧ s' = ⟨[(13, .t (.bool (decide (((a + 20 : Nat) : Int) ≤ (N : Int))))), (12, .t (.int .i64 N)), (11, .t (.int .i64 ((a + 20 : Nat) : Int))), (0, .sl 1 0 0 N), (1, .t (.int .i64 N)), (2, cmpF), (6, .t (.int .i64 20)), (7, .t (.int .i64 a)), (8, .t (.int .i64 ((a + 20 : Nat) : Int)))], srtH N R'⟩) (fun Q' hq => ?_) ?_
  · refine loop_on (fun s : Nat × List RegD => s.1 ≤ N ∧ Pm R s.2) (fun s => ⟨[(0, .sl 1 0 0 N), (1, .t (.int .i64 N)), (2, cmpF), (6, .t (.int .i64 20)), (7, .t (.int .i64 s.1)), (8, .t (.int .i64 ((s.1 + 20 : Nat) : Int)))], srtH N s.2⟩)
      (fun s => N - s.1) (0, R) ⟨Nat.zero_le _, .refl R⟩ ?_ (fun ⟨a, R1⟩ hi => ?_)
    · exact weak_of ⟨rfl, rfl, rfl, rfl, rfl, rfl, trivial⟩ rfl
    have hi : a ≤ N ∧ Pm R R1 := hi
    obtain ⟨ha, hp⟩ := hi
    have hl1 : R1.length = N := hp.len.trans hN
    refine br_intro (fun c => ?_) (fun c => ?_)
    · have c : a + 20 ≤ N := dleq c
      refine CallS.mono (ins_calls N R1 hl1 a (a + 20) hl (by omega) c) ?_
      rintro _ _ ⟨rfl, R2, hp2, rfl⟩
      refine st_intro (n := ((a + 20 + 20 : Nat) : Int)) (nat_in (n := a + 20 + 20) (by omega)) ?_
      conv => whnf
      exact ⟨⟨(a + 20, R2), ⟨c, hp.trans hp2⟩⟩, weak_of ⟨rfl, rfl, rfl, rfl, rfl, rfl, trivial⟩ rfl, by show N - (a + 20) < N - a; omega⟩
    · exact hq _ _ ⟨rfl, a, R1, ha, hp, rfl⟩
  rintro _ _ ⟨rfl, a, R1, ha, hp, rfl⟩
  have hl1 : R1.length = N := hp.len.trans hN
  refine CallS.mono (ins_calls N R1 hl1 a N hl ha (Nat.le_refl _)) ?_
  rintro _ _ ⟨rfl, R2, hp2, rfl⟩
  refine loop_on (fun s : Nat × List RegD => 1 ≤ s.1 ∧ s.1 ≤ 2 * N + 40 ∧ Pm R s.2) (fun s => ⟨[(0, .sl 1 0 0 N), (1, .t (.int .i64 N)), (2, cmpF), (6, .t (.int .i64 s.1))], srtH N s.2⟩)
    (fun s => N - s.1) (20, R2) ⟨by show 1 ≤ 20; omega, by show 20 ≤ 2 * N + 40; omega, hp.trans hp2⟩ ?_ (fun ⟨bs, R3⟩ hi => ?_)
  · exact weak_of ⟨rfl, rfl, rfl, rfl, trivial⟩ rfl
  have hi : 1 ≤ bs ∧ bs ≤ 2 * N + 40 ∧ Pm R R3 := hi
  obtain ⟨hb1, hb2, hp3⟩ := hi
  refine br_intro (fun c => ?_) (fun c => ?_)
  · have c : bs < N := dlt c
    obtain ⟨w, hw⟩ : ∃ w, w = 2 * bs := ⟨_, rfl⟩
    refine st_intro (n := ((w : Nat) : Int)) ((nat_in (n := 2 * bs) (by omega)).trans (by rw [hw])) ?_
    refine loop_then (fun e s' => e = .exit 4 ∧ ∃ (a : Nat) (R' : List RegD), a ≤ N ∧ Pm R R' ∧ s' = ⟨[(35, .t (.bool (decide (((a + w : Nat) : Int) ≤ (N : Int))))), (34, .t (.int .i64 N)), (33, .t (.int .i64 ((a + w : Nat) : Int))), (0, .sl 1 0 0 N), (1, .t (.int .i64 N)), (2, cmpF), (6, .t (.int .i64 bs)), (7, .t (.int .i64 a)), (8, .t (.int .i64 ((a + w : Nat) : Int)))], srtH N R'⟩) (fun Q' hq => ?_) ?_
    · refine loop_on (fun s : Nat × List RegD => s.1 ≤ N ∧ Pm R s.2) (fun s => ⟨[(0, .sl 1 0 0 N), (1, .t (.int .i64 N)), (2, cmpF), (6, .t (.int .i64 bs)), (7, .t (.int .i64 s.1)), (8, .t (.int .i64 ((s.1 + w : Nat) : Int)))], srtH N s.2⟩)
        (fun s => N - s.1) (0, R3) ⟨Nat.zero_le _, hp3⟩ ?_ (fun ⟨a, R4⟩ hi => ?_)
      · exact weak_of ⟨rfl, rfl, rfl, rfl, rfl, by show AV.t (T.int .i64 ((w : Nat) : Int)) = AV.t (T.int .i64 ((0 + w : Nat) : Int)); rw [Nat.zero_add], trivial⟩ rfl
      have hi : a ≤ N ∧ Pm R R4 := hi
      obtain ⟨ha, hp4⟩ := hi
      have hl4 : R4.length = N := hp4.len.trans hN
      refine br_intro (fun c => ?_) (fun c => ?_)
      · have c : a + w ≤ N := dleq c
        refine st_intro (n := ((a + bs : Nat) : Int)) (nat_in (n := a + bs) (by omega)) ?_
        refine CallS.mono (sym_calls N hl (a + w) R4 hl4 a (a + bs) (a + w) (by omega) (by omega) (by omega) c) ?_
        rintro _ _ ⟨rfl, R5, hp5, rfl⟩
        refine st_intro (n := ((w : Nat) : Int)) ((nat_in (n := 2 * bs) (by omega)).trans (by rw [hw])) ?_
        refine st_intro (n := ((a + w + w : Nat) : Int)) (nat_in (n := a + w + w) (by omega)) ?_
        conv => whnf
        exact ⟨⟨(a + w, R5), ⟨c, hp4.trans hp5⟩⟩, weak_of ⟨rfl, rfl, rfl, rfl, rfl, rfl, trivial⟩ rfl, by show N - (a + w) < N - a; omega⟩
      · exact hq _ _ ⟨rfl, a, R4, ha, hp4, rfl⟩
    rintro _ _ ⟨rfl, a, R4, ha, hp4, rfl⟩
    have hl4 : R4.length = N := hp4.len.trans hN
    refine st_intro (n := ((a + bs : Nat) : Int)) (nat_in (n := a + bs) (by omega)) ?_
    refine br_intro (fun c2 => ?_) (fun c2 => ?_)
    · have c2 := dlt c2
      refine CallS.mono (sym_calls N hl N R4 hl4 a (a + bs) N (by omega) (by omega) c2 (Nat.le_refl _)) ?_
      rintro _ _ ⟨rfl, R5, hp5, rfl⟩
      refine st_intro (n := ((w : Nat) : Int)) (((nat_in (n := bs * 2) (by omega))).trans (by rw [hw, Nat.mul_comm])) ?_
      conv => whnf
      exact ⟨⟨(w, R5), ⟨by show 1 ≤ w; omega, by show w ≤ 2 * N + 40; omega, hp4.trans hp5⟩⟩, weak_of ⟨rfl, rfl, rfl, rfl, trivial⟩ rfl, by show N - w < N - bs; omega⟩
    · refine st_intro (n := ((w : Nat) : Int)) (((nat_in (n := bs * 2) (by omega))).trans (by rw [hw, Nat.mul_comm])) ?_
      conv => whnf
      exact ⟨⟨(w, R4), ⟨by show 1 ≤ w; omega, by show w ≤ 2 * N + 40; omega, hp4⟩⟩, weak_of ⟨rfl, rfl, rfl, rfl, trivial⟩ rfl, by show N - w < N - bs; omega⟩
  · exact ⟨rfl, R3, hp3, rfl⟩

theorem sort_calls (N : Nat) (R : List RegD) (hN : R.length = N) (hl : N ≤ 1000000) :
    CallS Try.prog 13 [.sl 1 0 0 N, cmpF] (srtH N R) (SrtQ N R) := by
  refine CallS.of_fn tabS_ok regS_ok Try.func13 rfl rfl ?_
  refine CallS.mono (stable_calls N R hN hl) ?_
  rintro _ _ ⟨rfl, R2, hp2, rfl⟩
  exact ⟨rfl, R2, hp2, rfl⟩

end Go.Proofs.Ythdgpfegjdfpkaa
