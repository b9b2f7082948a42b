/-
  The merge of two sorted rows (walk).
-/
import Derived.Test.YthdgpfegjdfpkaaMs
namespace Go.Proofs.Ythdgpfegjdfpkaa
open Go.IntWalk
set_option maxRecDepth 100000
set_option linter.unusedVariables false
set_option linter.unusedSimpArgs false
set_option maxHeartbeats 2000000

/-- A merge of shorter rows. -/
def SymOK (N k : Nat) : Prop := ∀ (R : List RegD) (hN : R.length = N) (a m b : Nat) (hk : b - a ≤ k) (h1 : a < m) (h2 : m < b) (h3 : b ≤ N), CallS Try.prog 22 [.sl 1 0 0 N, .t (.int .i64 a), .t (.int .i64 m), .t (.int .i64 b), cmpF] (srtH N R) (SrtQ N R)

theorem sym3_calls (N k : Nat) (hl : N ≤ 1000000) (ih : SymOK N k) (R : List RegD) (hN : R.length = N) (a m b : Nat) (hk : b - a ≤ k + 1) (h1 : a < m) (h2 : m < b) (h3 : b ≤ N) (hm : m - a ≠ 1) (hb : b - m ≠ 1) (d n : Nat) (hd : d = (a + b) / 2) (hn : n = d + m) (hdm : d < m) :
    CallS Try.prog 22 [.sl 1 0 0 N, .t (.int .i64 a), .t (.int .i64 m), .t (.int .i64 b), cmpF] (srtH N R) (SrtQ N R) := by
  refine CallS.of_fn tabS_ok regS_ok Try.func22 rfl rfl ?_
  refine st_intro (n := ((m - a : Nat) : Int)) (nat_sub (a := m - a) (b := a) (c := m) (by omega) (by omega)) ?_
  refine br_intro (fun c0 => absurd (c0.symm.trans (eq_no hm)) (by decide)) (fun c0 => ?_)
  refine st_intro (n := ((b - m : Nat) : Int)) (nat_sub (a := b - m) (b := m) (c := b) (by omega) (by omega)) ?_
  refine br_intro (fun c0 => absurd (c0.symm.trans (eq_no hb)) (by decide)) (fun c0 => ?_)
  obtain ⟨z, hz⟩ : ∃ z, z = a + b := ⟨_, rfl⟩
  refine st_intro (n := ((z : Nat) : Int)) ((nat_in (n := a + b) (by omega)).trans (by rw [hz])) ?_
  refine st_intro (n := ((z : Nat) : Int)) (nat_inu (n := z) (by omega)) ?_
  refine st_intro (n := ((d : Nat) : Int)) ((half_u (n := z) (by omega)).trans (by rw [hd, hz])) ?_
  refine st_intro (n := ((d : Nat) : Int)) (nat_in (n := d) (by omega)) ?_
  refine st_intro (n := ((n : Nat) : Int)) ((nat_in (n := d + m) (by omega)).trans (by rw [hn])) ?_
  refine br_intro (fun c5 => ?_) (fun c5 => absurd (dle c5) (by omega))
  refine st_intro (n := ((n - b : Nat) : Int)) (nat_sub (a := n - b) (b := b) (c := n) (by omega) (by omega)) ?_
  refine st_intro (n := ((n - 1 : Nat) : Int)) (nat_sub (a := n - 1) (b := 1) (c := n) (by omega) (by omega)) ?_
  refine loop_then (fun e s' => e = .exit 8 ∧ ∃ i j : Nat, ((n - b) ≤ i ∧ i ≤ d) ∧ s' = ⟨[(151, .t (.bool (decide ((i : Int) < (j : Int))))), (150, .t (.int .i64 j)), (149, .t (.int .i64 i)), (0, .sl 1 0 0 N), (1, .t (.int .i64 a)), (2, .t (.int .i64 m)), (3, .t (.int .i64 b)), (4, cmpF), (18, .t (.int .i64 d)), (19, .t (.int .i64 n)), (22, .t (.int .i64 ((n - 1 : Nat) : Int))), (20, .t (.int .i64 i)), (21, .t (.int .i64 j))], srtH N R⟩) (fun Q' hq => ?_) ?_
  · refine loop_on (fun s : Nat × Nat => (n - b) ≤ s.1 ∧ s.1 ≤ s.2 ∧ s.2 ≤ d) (fun s => ⟨[(0, .sl 1 0 0 N), (1, .t (.int .i64 a)), (2, .t (.int .i64 m)), (3, .t (.int .i64 b)), (4, cmpF), (18, .t (.int .i64 d)), (19, .t (.int .i64 n)), (22, .t (.int .i64 ((n - 1 : Nat) : Int))), (20, .t (.int .i64 s.1)), (21, .t (.int .i64 s.2))], srtH N R⟩)
      (fun s => s.2 - s.1) ((n - b), d) ⟨Nat.le_refl _, by show (n - b) ≤ d; omega, Nat.le_refl _⟩ ?_ (fun ⟨i, j⟩ hi => ?_)
    · exact weak_of ⟨rfl, rfl, rfl, rfl, rfl, rfl, rfl, rfl, rfl, rfl, trivial⟩ rfl
    have hi : (n - b) ≤ i ∧ i ≤ j ∧ j ≤ d := hi
    obtain ⟨hi1, hi2, hi3⟩ := hi
    refine br_intro (fun c => ?_) (fun c => ?_)
    · have c : i < j := dlt c
      obtain ⟨zh, hzh⟩ : ∃ z, z = i + j := ⟨_, rfl⟩
      obtain ⟨h, hh⟩ : ∃ h, h = zh / 2 := ⟨_, rfl⟩
      refine st_intro (n := ((zh : Nat) : Int)) ((nat_in (n := i + j) (by omega)).trans (by rw [hzh])) ?_
      refine st_intro (n := ((zh : Nat) : Int)) (nat_inu (n := zh) (by omega)) ?_
      refine st_intro (n := ((h : Nat) : Int)) ((half_u (n := zh) (by omega)).trans (by rw [hh])) ?_
      refine st_intro (n := ((h : Nat) : Int)) (nat_in (n := h) (by omega)) ?_
      obtain ⟨x, hx, hxm⟩ := get_some (R := R) (i := n - 1 - h) (by omega)
      obtain ⟨y, hy, hym⟩ := get_some (R := R) (i := h) (by omega)
      obtain ⟨q, hq2⟩ := cmp_runs x y
      refine draw_introS ord_sym_35 (by decide +kernel) ?_
      refine st_intro (n := ((n - 1 - h : Nat) : Int)) (nat_sub (a := n - 1 - h) (b := h) (c := n - 1) (by omega) (by omega)) ?_
      refine ck_intro (inB0 rfl (by omega)) ?_
      refine opt_intro (map_get0 hx) ?_
      refine ck_intro (inB0 rfl (by omega)) ?_
      refine opt_intro (map_get0 hy) ?_
      refine CallS.pure hq2 rfl ?_
      refine And.intro (fun j hj => by cases hj) ?_
      refine br_intro (fun c3 => ?_) (fun c3 => ?_)
      · refine st_intro (n := ((h + 1 : Nat) : Int)) (nat_in (n := h + 1) (by omega)) ?_
        conv => whnf
        exact ⟨⟨(h + 1, j), ⟨by show (n - b) ≤ h + 1; omega, by show h + 1 ≤ j; omega, hi3⟩⟩, weak_of ⟨rfl, rfl, rfl, rfl, rfl, rfl, rfl, rfl, rfl, rfl, trivial⟩ rfl, by show j - (h + 1) < j - i; omega⟩
      · conv => whnf
        exact ⟨⟨(i, h), ⟨hi1, by show i ≤ h; omega, by show h ≤ d; omega⟩⟩, weak_of ⟨rfl, rfl, rfl, rfl, rfl, rfl, rfl, rfl, rfl, rfl, trivial⟩ rfl, by show h - i < j - i; omega⟩
    · exact hq _ _ ⟨rfl, i, j, ⟨hi1, by omega⟩, rfl⟩
  rintro _ _ ⟨rfl, i, j, ⟨hi1, hi2⟩, rfl⟩
  obtain ⟨e, he⟩ : ∃ e, e = n - i := ⟨_, rfl⟩
  refine st_intro (n := ((e : Nat) : Int)) ((nat_sub (a := e) (b := i) (c := n) (by omega) (by omega))) ?_
  refine br_intro (fun c1 => ?_) (fun c1 => ?_)
  · have c1 := dlt c1
    refine br_intro (fun c2 => ?_) (fun c2 => ?_)
    · have c2 := dlt c2
      refine CallS.mono (rotate_calls N R hN i m e hl c1 c2 (by omega)) ?_
      rintro _ _ ⟨rfl, R5, hp5, rfl⟩
      have hl5 : R5.length = N := hp5.len.trans hN
      refine br_intro (fun c6 => ?_) (fun c6 => ?_)
      · have c6 := dlt c6
        refine br_intro (fun c7 => ?_) (fun c7 => ?_)
        · have c7 := dlt c7
          refine CallS.mono (ih R5 hl5 a i d (by omega) c6 c7 (by omega)) ?_
          rintro _ _ ⟨rfl, R6, hp6, rfl⟩
          have hp7 := hp5.trans hp6
          have hl7 : R6.length = N := hp7.len.trans hN
          refine br_intro (fun c8 => ?_) (fun c8 => ?_)
          · have c8 := dlt c8
            refine br_intro (fun c9 => ?_) (fun c9 => ?_)
            · have c9 := dlt c9
              refine CallS.mono (ih R6 hl7 d e b (by omega) (by omega) (by omega) h3) ?_
              rintro _ _ ⟨rfl, R4, hp4, rfl⟩
              exact ⟨rfl, R4, hp7.trans hp4, rfl⟩
            · exact ⟨rfl, R6, hp7, rfl⟩
          · exact ⟨rfl, R6, hp7, rfl⟩
        · skip
          refine br_intro (fun c8 => ?_) (fun c8 => ?_)
          · have c8 := dlt c8
            refine br_intro (fun c9 => ?_) (fun c9 => ?_)
            · have c9 := dlt c9
              refine CallS.mono (ih R5 hl5 d e b (by omega) (by omega) (by omega) h3) ?_
              rintro _ _ ⟨rfl, R4, hp4, rfl⟩
              exact ⟨rfl, R4, hp5.trans hp4, rfl⟩
            · exact ⟨rfl, R5, hp5, rfl⟩
          · exact ⟨rfl, R5, hp5, rfl⟩
      · skip
        refine br_intro (fun c8 => ?_) (fun c8 => ?_)
        · have c8 := dlt c8
          refine br_intro (fun c9 => ?_) (fun c9 => ?_)
          · have c9 := dlt c9
            refine CallS.mono (ih R5 hl5 d e b (by omega) (by omega) (by omega) h3) ?_
            rintro _ _ ⟨rfl, R4, hp4, rfl⟩
            exact ⟨rfl, R4, hp5.trans hp4, rfl⟩
          · exact ⟨rfl, R5, hp5, rfl⟩
        · exact ⟨rfl, R5, hp5, rfl⟩
    · have hp0 := Pm.refl R
      refine br_intro (fun c6 => ?_) (fun c6 => ?_)
      · have c6 := dlt c6
        refine br_intro (fun c7 => ?_) (fun c7 => ?_)
        · have c7 := dlt c7
          refine CallS.mono (ih R hN a i d (by omega) c6 c7 (by omega)) ?_
          rintro _ _ ⟨rfl, R6, hp6, rfl⟩
          have hp7 := hp0.trans hp6
          have hl7 : R6.length = N := hp7.len.trans hN
          refine br_intro (fun c8 => ?_) (fun c8 => ?_)
          · have c8 := dlt c8
            refine br_intro (fun c9 => ?_) (fun c9 => ?_)
            · have c9 := dlt c9
              refine CallS.mono (ih R6 hl7 d e b (by omega) (by omega) (by omega) h3) ?_
              rintro _ _ ⟨rfl, R4, hp4, rfl⟩
              exact ⟨rfl, R4, hp7.trans hp4, rfl⟩
            · exact ⟨rfl, R6, hp7, rfl⟩
          · exact ⟨rfl, R6, hp7, rfl⟩
        · skip
          refine br_intro (fun c8 => ?_) (fun c8 => ?_)
          · have c8 := dlt c8
            refine br_intro (fun c9 => ?_) (fun c9 => ?_)
            · have c9 := dlt c9
              refine CallS.mono (ih R hN d e b (by omega) (by omega) (by omega) h3) ?_
              rintro _ _ ⟨rfl, R4, hp4, rfl⟩
              exact ⟨rfl, R4, hp0.trans hp4, rfl⟩
            · exact ⟨rfl, R, hp0, rfl⟩
          · exact ⟨rfl, R, hp0, rfl⟩
      · skip
        refine br_intro (fun c8 => ?_) (fun c8 => ?_)
        · have c8 := dlt c8
          refine br_intro (fun c9 => ?_) (fun c9 => ?_)
          · have c9 := dlt c9
            refine CallS.mono (ih R hN d e b (by omega) (by omega) (by omega) h3) ?_
            rintro _ _ ⟨rfl, R4, hp4, rfl⟩
            exact ⟨rfl, R4, hp0.trans hp4, rfl⟩
          · exact ⟨rfl, R, hp0, rfl⟩
        · exact ⟨rfl, R, hp0, rfl⟩
  · have hp0 := Pm.refl R
    refine br_intro (fun c6 => ?_) (fun c6 => ?_)
    · have c6 := dlt c6
      refine br_intro (fun c7 => ?_) (fun c7 => ?_)
      · have c7 := dlt c7
        refine CallS.mono (ih R hN a i d (by omega) c6 c7 (by omega)) ?_
        rintro _ _ ⟨rfl, R6, hp6, rfl⟩
        have hp7 := hp0.trans hp6
        have hl7 : R6.length = N := hp7.len.trans hN
        refine br_intro (fun c8 => ?_) (fun c8 => ?_)
        · have c8 := dlt c8
          refine br_intro (fun c9 => ?_) (fun c9 => ?_)
          · have c9 := dlt c9
            refine CallS.mono (ih R6 hl7 d e b (by omega) (by omega) (by omega) h3) ?_
            rintro _ _ ⟨rfl, R4, hp4, rfl⟩
            exact ⟨rfl, R4, hp7.trans hp4, rfl⟩
          · exact ⟨rfl, R6, hp7, rfl⟩
        · exact ⟨rfl, R6, hp7, rfl⟩
      · skip
        refine br_intro (fun c8 => ?_) (fun c8 => ?_)
        · have c8 := dlt c8
          refine br_intro (fun c9 => ?_) (fun c9 => ?_)
          · have c9 := dlt c9
            refine CallS.mono (ih R hN d e b (by omega) (by omega) (by omega) h3) ?_
            rintro _ _ ⟨rfl, R4, hp4, rfl⟩
            exact ⟨rfl, R4, hp0.trans hp4, rfl⟩
          · exact ⟨rfl, R, hp0, rfl⟩
        · exact ⟨rfl, R, hp0, rfl⟩
    · skip
      refine br_intro (fun c8 => ?_) (fun c8 => ?_)
      · have c8 := dlt c8
        refine br_intro (fun c9 => ?_) (fun c9 => ?_)
        · have c9 := dlt c9
          refine CallS.mono (ih R hN d e b (by omega) (by omega) (by omega) h3) ?_
          rintro _ _ ⟨rfl, R4, hp4, rfl⟩
          exact ⟨rfl, R4, hp0.trans hp4, rfl⟩
        · exact ⟨rfl, R, hp0, rfl⟩
      · exact ⟨rfl, R, hp0, rfl⟩

end Go.Proofs.Ythdgpfegjdfpkaa
