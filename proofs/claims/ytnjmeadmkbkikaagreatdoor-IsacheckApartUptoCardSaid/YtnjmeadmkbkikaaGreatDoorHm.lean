/-
  A form's pattern (walk).
-/
import Derived.Test.YtnjmeadmkbkikaaGreatDoorHl
import Derived.Test.YtnjmeadmkbkikaaGreatDoorHk
namespace Go.Proofs.YtnjmeadmkbkikaaGreatDoor
open Go.IntWalk
set_option maxRecDepth 100000
set_option linter.unusedVariables false
set_option linter.unusedSimpArgs false
set_option maxHeartbeats 1000000

def ord_24_6 : Ord := (.op 0 [] (.op 1 [] (.op 2 [1, 0] (.op 3 [] (.op 4 [] (.op 5 [4, 3, 2, 1, 0] (.op 6 [4, 3, 2, 1, 0] (.op 7 [4, 3, 2, 1, 0] (.op 8 [] (.op 9 [8, 7, 6, 5, 4, 3, 2, 1, 0] (.op 10 [] (.op 11 [] .nil))))))))))))
def ord_24_8 : Ord := (.op 0 [] (.op 1 [] (.op 2 [1, 0] (.op 3 [] (.op 4 [] (.op 5 [4, 3, 2, 1, 0] (.op 6 [4, 3, 2, 1, 0] (.op 7 [4, 3, 2, 1, 0] (.op 8 [] (.op 9 [8, 7, 6, 5, 4, 3, 2, 1, 0] (.op 10 [] (.op 11 [] .nil))))))))))))

def patT (l : T) (m0 m1 w0 w1 : Nat) : T := .agg [l, .int .u64 m0, .int .u64 m1, .int .u64 w0, .int .u64 w1]
/-- A form's pattern: none, or its bits and words. -/
def PatS (d : DescD) (f : FormD) (r : AV) : Prop := r = .t (patT .nils 0 0 0 0) ∨
  ∃ m0 m1 w0 w1 : Nat, r = .t (patT (.vec 3 ((formBits d f).map bitT)) m0 m1 w0 w1) ∧ GoodF d f ∧ PatOK (formBits d f) (formBits d f).length m0 m1 w0 w1
theorem PatS.noRef {d : DescD} {f : FormD} : ∀ r, PatS d f r → noRef r = true := by rintro r (rfl | ⟨_, _, _, _, rfl, _⟩) <;> rfl

theorem u8_49 {x : BitD} : (((x.lit : Nat) : Int) == 49) = true ↔ x.lit = 49 := by simp; omega

def patH (R : List BitD) (m0 m1 w0 w1 : Nat) : AH := [.box [.t .nils, .t (.int .u64 0), .t (.int .u64 0), .t (.int .u64 0), .t (.int .u64 0)], .arr tBit 3 false 0 (.ts (R.map bitT)), .box [.sl 1 0 0 R.length, .t (.int .u64 m0), .t (.int .u64 m1), .t (.int .u64 w0), .t (.int .u64 w1)]]

theorem pattern_runs (d : DescD) (f : FormD) (hd : d.ok) (hf : f.ok) (hs : sumL f.pieces ≤ 2000000000000) : RunsX Tryz.prog 24 [descT d, formT f] (PatS d f) := by
  have hB := bits_runs d f hd hf hs
  refine RunsX.of_callP ?_ PatS.noRef
  refine CallS.of_fn tabS_ok regS_ok Tryz.func24 rfl rfl ?_
  refine CallS.frzX hB rfl ⟨.refl _, .refl _, trivial⟩ ?_
  rintro _ (rfl | ⟨R0, rfl, hG, hP⟩)
  · refine loop_un 1 ?_
    exact ⟨_, .inl rfl, And.intro rfl rfl⟩
  have hR0 := hP.eq hG.m8
  subst hR0
  obtain ⟨R, hR⟩ : ∃ R, R = formBits d f := ⟨_, rfl⟩
  have hlen : R.length ≤ 120 := by rw [hR, formBits_len]; exact hG.le
  have hmap : (R.map bitT).length = R.length := by simp
  have e0 : placedL d.order (rawB f.pieces) = R := hR.symm
  refine loop_on (fun s : Nat × Nat × Nat × Nat × Nat => s.1 ≤ R.length ∧ PatOK R s.1 s.2.1 s.2.2.1 s.2.2.2.1 s.2.2.2.2) (fun s => ⟨[(4, .ptr 0 0 0 0), (5, .ptr 2 0 0 0), (13, .sl 1 0 0 R.length), (14, .t (.int .i64 (R.length : Int))), (15, .t (.int .i64 s.1))], patH R s.2.1 s.2.2.1 s.2.2.2.1 s.2.2.2.2⟩)
    (fun s => R.length - s.1) (0, 0, 0, 0, 0) ⟨Nat.zero_le _, PatOK.zero R⟩ ?_ (fun ⟨n, m0, m1, w0, w1⟩ hn => ?_)
  · have eA : (placedL d.order (rawB f.pieces)).map bitT = R.map bitT := by rw [e0]
    have eL : ((placedL d.order (rawB f.pieces)).map bitT).length = R.length := by rw [e0, hmap]
    exact weak_gc [2, 3, 4] rfl ⟨rfl, rfl, congrArg (fun k : Nat => some (AV.sl 1 0 0 k)) eL, congrArg (fun k : Nat => some (AV.t (.int .i64 (k : Int)))) eL, rfl, trivial⟩ ⟨rfl, congrArg (fun l => some (Blk.arr tBit 3 false 0 (.ts l))) eA, congrArg (fun k : Nat => some (Blk.box [.sl 1 0 0 k, .t (.int .u64 0), .t (.int .u64 0), .t (.int .u64 0), .t (.int .u64 0)])) eL, trivial⟩
  obtain ⟨hn, hO⟩ : n ≤ R.length ∧ PatOK R n m0 m1 w0 w1 := hn
  refine br_intro (fun c => ?_) (fun c => ?_)
  · have c : n < R.length := by have := dlt c; omega
    obtain ⟨x, hx, hxm⟩ := get_some (R := R) (i := n) c
    refine ck_intro (inB0 rfl (by omega)) ?_
    refine opt_intro (map_get0 hx) ?_
    refine CallS.frzG (literal_runs x) rfl ⟨.refl _, trivial⟩ ?_
    refine br_intro (fun cl => ?_) (fun cl => ?_)
    · have hlit : x.arg < 0 ∧ x.lit ≠ 120 := of_decide_eq_true cl
      obtain ⟨hM0, hM1, _⟩ := hO.mask
      obtain ⟨hW0, hW1, _⟩ := hO.want
      by_cases hn64 : n < 64
      · refine draw_introS ord_24_6 (by decide +kernel) ?_
        refine ck_intro rfl ?_
        refine st_intro (n := 0) (show IntKind.i64.wrap (((n : Nat) : Int).tdiv 64) = 0 from by rw [Int.tdiv_eq_ediv_of_nonneg (by omega), IntKind.wrap_i64]; omega) ?_
        refine ck_intro rfl ?_
        refine st_intro (n := ((n : Nat) : Int)) (show ((n : Nat) : Int).tmod 64 = _ from by rw [Int.tmod_eq_emod_of_nonneg (by omega)]; omega) ?_
        refine ck_intro (decide_eq_true (show (0 : Int) ≤ ((n : Nat) : Int) by omega)) ?_
        refine st_intro (n := ((2 ^ n : Nat) : Int)) (u64bit rfl (by omega)) ?_
        refine st_intro (n := ((m0 ||| 2 ^ n : Nat) : Int)) (u64or hM0 (pow64 (by omega))) ?_
        refine And.intro (fun j hj => by cases hj) ?_
        refine br_intro (fun c49 => ?_) (fun c49 => ?_)
        · have c49 : x.lit = 49 := u8_49.1 c49
          refine draw_introS ord_24_8 (by decide +kernel) ?_
          refine ck_intro rfl ?_
          refine st_intro (n := 0) (show IntKind.i64.wrap (((n : Nat) : Int).tdiv 64) = 0 from by rw [Int.tdiv_eq_ediv_of_nonneg (by omega), IntKind.wrap_i64]; omega) ?_
          refine ck_intro rfl ?_
          refine st_intro (n := ((n : Nat) : Int)) (show ((n : Nat) : Int).tmod 64 = _ from by rw [Int.tmod_eq_emod_of_nonneg (by omega)]; omega) ?_
          refine ck_intro (decide_eq_true (show (0 : Int) ≤ ((n : Nat) : Int) by omega)) ?_
          refine st_intro (n := ((2 ^ n : Nat) : Int)) (u64bit rfl (by omega)) ?_
          refine st_intro (n := ((w0 ||| 2 ^ n : Nat) : Int)) (u64or hW0 (pow64 (by omega))) ?_
          refine And.intro (fun j hj => by cases hj) ?_
          refine st_intro (n := ((n + 1 : Nat) : Int)) (nat_in (n := n + 1) (by omega)) ?_
          conv => whnf
          exact ⟨⟨(n + 1, m0 ||| 2 ^ n, m1, w0 ||| 2 ^ n, w1), c, (hO.low hx hlit hn64).1 c49⟩, weak_gc [0, 1, 2] rfl ⟨rfl, rfl, rfl, rfl, rfl, trivial⟩ ⟨rfl, rfl, rfl, trivial⟩, by show R.length - (n + 1) < R.length - n; omega⟩
        · have c49 : ¬ x.lit = 49 := fun e => by rw [u8_49.2 e] at c49; cases c49
          refine st_intro (n := ((n + 1 : Nat) : Int)) (nat_in (n := n + 1) (by omega)) ?_
          conv => whnf
          exact ⟨⟨(n + 1, m0 ||| 2 ^ n, m1, w0, w1), c, (hO.low hx hlit hn64).2 c49⟩, weak_gc [0, 1, 2] rfl ⟨rfl, rfl, rfl, rfl, rfl, trivial⟩ ⟨rfl, rfl, rfl, trivial⟩, by show R.length - (n + 1) < R.length - n; omega⟩
      obtain ⟨k, hk⟩ : ∃ k, n = 64 + k := ⟨n - 64, by omega⟩
      refine draw_introS ord_24_6 (by decide +kernel) ?_
      refine ck_intro rfl ?_
      refine st_intro (n := 1) (show IntKind.i64.wrap (((n : Nat) : Int).tdiv 64) = 1 from by rw [Int.tdiv_eq_ediv_of_nonneg (by omega), IntKind.wrap_i64]; omega) ?_
      refine ck_intro rfl ?_
      refine st_intro (n := ((k : Nat) : Int)) (show ((n : Nat) : Int).tmod 64 = _ from by rw [Int.tmod_eq_emod_of_nonneg (by omega)]; omega) ?_
      refine ck_intro (decide_eq_true (show (0 : Int) ≤ ((k : Nat) : Int) by omega)) ?_
      refine st_intro (n := ((2 ^ k : Nat) : Int)) (u64bit rfl (by omega)) ?_
      refine st_intro (n := ((m1 ||| 2 ^ k : Nat) : Int)) (u64or hM1 (pow64 (by omega))) ?_
      refine And.intro (fun j hj => by cases hj) ?_
      refine br_intro (fun c49 => ?_) (fun c49 => ?_)
      · have c49 : x.lit = 49 := u8_49.1 c49
        refine draw_introS ord_24_8 (by decide +kernel) ?_
        refine ck_intro rfl ?_
        refine st_intro (n := 1) (show IntKind.i64.wrap (((n : Nat) : Int).tdiv 64) = 1 from by rw [Int.tdiv_eq_ediv_of_nonneg (by omega), IntKind.wrap_i64]; omega) ?_
        refine ck_intro rfl ?_
        refine st_intro (n := ((k : Nat) : Int)) (show ((n : Nat) : Int).tmod 64 = _ from by rw [Int.tmod_eq_emod_of_nonneg (by omega)]; omega) ?_
        refine ck_intro (decide_eq_true (show (0 : Int) ≤ ((k : Nat) : Int) by omega)) ?_
        refine st_intro (n := ((2 ^ k : Nat) : Int)) (u64bit rfl (by omega)) ?_
        refine st_intro (n := ((w1 ||| 2 ^ k : Nat) : Int)) (u64or hW1 (pow64 (by omega))) ?_
        refine And.intro (fun j hj => by cases hj) ?_
        refine st_intro (n := ((n + 1 : Nat) : Int)) (nat_in (n := n + 1) (by omega)) ?_
        conv => whnf
        exact ⟨⟨(n + 1, m0, m1 ||| 2 ^ k, w0, w1 ||| 2 ^ k), c, (hO.high hx hlit hk (by omega)).1 c49⟩, weak_gc [0, 1, 2] rfl ⟨rfl, rfl, rfl, rfl, rfl, trivial⟩ ⟨rfl, rfl, rfl, trivial⟩, by show R.length - (n + 1) < R.length - n; omega⟩
      · have c49 : ¬ x.lit = 49 := fun e => by rw [u8_49.2 e] at c49; cases c49
        refine st_intro (n := ((n + 1 : Nat) : Int)) (nat_in (n := n + 1) (by omega)) ?_
        conv => whnf
        exact ⟨⟨(n + 1, m0, m1 ||| 2 ^ k, w0, w1), c, (hO.high hx hlit hk (by omega)).2 c49⟩, weak_gc [0, 1, 2] rfl ⟨rfl, rfl, rfl, rfl, rfl, trivial⟩ ⟨rfl, rfl, rfl, trivial⟩, by show R.length - (n + 1) < R.length - n; omega⟩
    · refine st_intro (n := ((n + 1 : Nat) : Int)) (nat_in (n := n + 1) (by omega)) ?_
      conv => whnf
      exact ⟨⟨(n + 1, m0, m1, w0, w1), c, hO.skip hx (of_decide_eq_false cl)⟩, weak_gc [0, 1, 2] rfl ⟨rfl, rfl, rfl, rfl, rfl, trivial⟩ ⟨rfl, rfl, rfl, trivial⟩, by show R.length - (n + 1) < R.length - n; omega⟩
  · have c : n = R.length := by have := dge c; omega
    subst c
    have eP : ((R.map bitT).drop 0).take R.length = (formBits d f).map bitT := by rw [← hR, List.drop_zero, List.take_of_length_le (by simp)]
    exact ⟨_, .inr ⟨m0, m1, w0, w1, rfl, hG, by rw [← hR]; exact hO⟩, And.intro (congrArg (fun l => some (patT (.vec 3 l) m0 m1 w0 w1)) eP) rfl⟩

end Go.Proofs.YtnjmeadmkbkikaaGreatDoor
