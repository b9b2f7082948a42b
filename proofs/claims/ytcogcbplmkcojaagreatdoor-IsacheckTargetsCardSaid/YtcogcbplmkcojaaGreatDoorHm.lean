/-
  A form's pattern (walk).
-/
import Derived.Test.YtcogcbplmkcojaaGreatDoorHl
import Derived.Test.YtcogcbplmkcojaaGreatDoorHk
namespace Go.Proofs.YtcogcbplmkcojaaGreatDoor
open Go.IntWalk
set_option maxRecDepth 100000
set_option linter.unusedVariables false
set_option linter.unusedSimpArgs false
set_option maxHeartbeats 1000000
def z7 : Ord := (.op 0 [] (.op 1 [] (.op 2 [1, 0] (.op 3 [] (.op 4 [] (.op 5 [4, 3, 2, 1, 0] (.op 6 [4, 3, 2, 1, 0] (.op 7 [4, 3, 2, 1, 0] (.op 8 [] (.op 9 [8, 7, 6, 5, 4, 3, 2, 1, 0] (.op 10 [] (.op 11 [] .nil))))))))))))
def z6 : Ord := (.op 0 [] (.op 1 [] (.op 2 [1, 0] (.op 3 [] (.op 4 [] (.op 5 [4, 3, 2, 1, 0] (.op 6 [4, 3, 2, 1, 0] (.op 7 [4, 3, 2, 1, 0] (.op 8 [] (.op 9 [8, 7, 6, 5, 4, 3, 2, 1, 0] (.op 10 [] (.op 11 [] .nil))))))))))))
def rC (l : T) (m0 m1 w0 w1 : Nat) : T := .agg [l, .int .u64 m0, .int .u64 m1, .int .u64 w0, .int .u64 w1]
def D7 (d : τ) (f : aj) (r : AV) : Prop := (r = .t (rC .av 0 0 0 0) ∧ ¬ di d f) ∨
 ∃ m0 m1 w0 w1 : Nat, r = .t (rC (.vec 3 ((aE d f).map aA)) m0 m1 w0 w1) ∧ di d f ∧ ee (aE d f) (aE d f).length m0 m1 w0 w1
theorem D7.aL {d : τ} {f : aj} : ∀ r, D7 d f r → aL r = true := by rintro r (⟨rfl, _⟩ | ⟨_, _, _, _, rfl, _⟩) <;> rfl
theorem tP {x : Θ} : (((x.lit : Nat) : Int) == 49) = true ↔ x.lit = 49 := by simp; omega
def PX (R : List Θ) (m0 m1 w0 w1 : Nat) : AH := [.box [.t .av, .t (.int .u64 0), .t (.int .u64 0), .t (.int .u64 0), .t (.int .u64 0)], .arr lz 3 false 0 (.ts (R.map aA)), .box [.sl 1 0 0 R.length, .t (.int .u64 m0), .t (.int .u64 m1), .t (.int .u64 w0), .t (.int .u64 w1)]]
theorem oP (d : τ) (f : aj) (hd : d.ok) (hf : f.ok) (hs : fO f.pieces ≤ 2000000000000) : af Tryz.prog 23 [aq d, ab f] (D7 d f) := by
 have hB := yR d f hd hf hs
 refine af.IJ ?_ D7.aL
 refine γ.ο ζ η Tryz.func23 rfl rfl ?_
 refine γ.cD hB rfl ⟨.refl _, .refl _, trivial⟩ ?_
 rintro _ (⟨rfl, hn⟩ | ⟨R0, rfl, hG, hP⟩)
 ·refine bd 1 ?_
  exact ⟨_, .inl ⟨rfl, hn⟩, And.intro rfl rfl⟩
 have RM := hP.eq hG.m8
 subst RM
 obtain ⟨R, hR⟩ : ∃ R, R = aE d f := ⟨_, rfl⟩
 have hlen : R.length ≤ 120 := by rw [hR, iA]; exact hG.le
 have eT : (R.map aA).length = R.length := by simp
 have e0 : jn d.order (bN f.pieces) = R := hR.symm
 refine ak (fun s : Nat × Nat × Nat × Nat × Nat => s.1 ≤ R.length ∧ ee R s.1 s.2.1 s.2.2.1 s.2.2.2.1 s.2.2.2.2) (fun s => ⟨[(4, .ptr 0 0 0 0), (5, .ptr 2 0 0 0), (13, .sl 1 0 0 R.length), (14, .t (.int .i64 (R.length : Int))), (15, .t (.int .i64 s.1))], PX R s.2.1 s.2.2.1 s.2.2.2.1 s.2.2.2.2⟩)
  (fun s => R.length - s.1) (0, 0, 0, 0, 0) ⟨Nat.zero_le _, ee.zero R⟩ ?_ (fun ⟨n, m0, m1, w0, w1⟩ hn => ?_)
 ·have eA : (jn d.order (bN f.pieces)).map aA = R.map aA := by rw [e0]
  have eL : ((jn d.order (bN f.pieces)).map aA).length = R.length := by rw [e0, eT]
  exact π [2, 3, 4] rfl ⟨rfl, rfl, congrArg (fun k : Nat => some (AV.sl 1 0 0 k)) eL, congrArg (fun k : Nat => some (AV.t (.int .i64 (k : Int)))) eL, rfl, trivial⟩ ⟨rfl, congrArg (fun l => some (Ψ.arr lz 3 false 0 (.ts l))) eA, congrArg (fun k : Nat => some (Ψ.box [.sl 1 0 0 k, .t (.int .u64 0), .t (.int .u64 0), .t (.int .u64 0), .t (.int .u64 0)])) eL, trivial⟩
 obtain ⟨hn, hO⟩ : n ≤ R.length ∧ ee R n m0 m1 w0 w1 := hn
 refine U (fun c => ?_) (fun c => ?_)
 ·have c : n < R.length := by have := dn c; omega
  obtain ⟨x, hx, cX⟩ := get_some (R := R) (i := n) c
  refine ε (mD rfl (by omega)) ?_
  refine ξ (iX hx) ?_
  refine γ.b9 (oY x) rfl ⟨.refl _, trivial⟩ ?_
  refine U (fun cl => ?_) (fun cl => ?_)
  ·have xB : x.arg < 0 ∧ x.lit ≠ 120 := of_decide_eq_true cl
   obtain ⟨lg, tp, _⟩ := hO.jv
   obtain ⟨RH, Ny, _⟩ := hO.want
   by_cases Ja : n < 64
   ·refine υ z7 (by decide +kernel) ?_
    refine ε rfl ?_
    refine δ (n := 0) (show IntKind.i64.wrap (((n : Nat) : Int).tdiv 64) = 0 from by rw [Int.tdiv_eq_ediv_of_nonneg (by omega), IntKind.wrap_i64]; omega) ?_
    refine ε rfl ?_
    refine δ (n := ((n : Nat) : Int)) (show ((n : Nat) : Int).tmod 64 = _ from by rw [Int.tmod_eq_emod_of_nonneg (by omega)]; omega) ?_
    refine ε (decide_eq_true (show (0 : Int) ≤ ((n : Nat) : Int) by omega)) ?_
    refine δ (n := ((2 ^ n : Nat) : Int)) (qy rfl (by omega)) ?_
    refine δ (n := ((m0 ||| 2 ^ n : Nat) : Int)) (vB lg (rA (by omega))) ?_
    refine And.intro (fun j hj => by cases hj) ?_
    refine U (fun iL => ?_) (fun iL => ?_)
    ·have iL : x.lit = 49 := tP.1 iL
     refine υ z6 (by decide +kernel) ?_
     refine ε rfl ?_
     refine δ (n := 0) (show IntKind.i64.wrap (((n : Nat) : Int).tdiv 64) = 0 from by rw [Int.tdiv_eq_ediv_of_nonneg (by omega), IntKind.wrap_i64]; omega) ?_
     refine ε rfl ?_
     refine δ (n := ((n : Nat) : Int)) (show ((n : Nat) : Int).tmod 64 = _ from by rw [Int.tmod_eq_emod_of_nonneg (by omega)]; omega) ?_
     refine ε (decide_eq_true (show (0 : Int) ≤ ((n : Nat) : Int) by omega)) ?_
     refine δ (n := ((2 ^ n : Nat) : Int)) (qy rfl (by omega)) ?_
     refine δ (n := ((w0 ||| 2 ^ n : Nat) : Int)) (vB RH (rA (by omega))) ?_
     refine And.intro (fun j hj => by cases hj) ?_
     refine δ (n := ((n + 1 : Nat) : Int)) (ag (n := n + 1) (by omega)) ?_
     conv => whnf
     exact ⟨⟨(n + 1, m0 ||| 2 ^ n, m1, w0 ||| 2 ^ n, w1), c, (hO.low hx xB Ja).1 iL⟩, π [0, 1, 2] rfl ⟨rfl, rfl, rfl, rfl, rfl, trivial⟩ ⟨rfl, rfl, rfl, trivial⟩, by show R.length - (n + 1) < R.length - n; omega⟩
    ·have iL : ¬ x.lit = 49 := fun e => by rw [tP.2 e] at iL; cases iL
     refine δ (n := ((n + 1 : Nat) : Int)) (ag (n := n + 1) (by omega)) ?_
     conv => whnf
     exact ⟨⟨(n + 1, m0 ||| 2 ^ n, m1, w0, w1), c, (hO.low hx xB Ja).2 iL⟩, π [0, 1, 2] rfl ⟨rfl, rfl, rfl, rfl, rfl, trivial⟩ ⟨rfl, rfl, rfl, trivial⟩, by show R.length - (n + 1) < R.length - n; omega⟩
   obtain ⟨k, hk⟩ : ∃ k, n = 64 + k := ⟨n - 64, by omega⟩
   refine υ z7 (by decide +kernel) ?_
   refine ε rfl ?_
   refine δ (n := 1) (show IntKind.i64.wrap (((n : Nat) : Int).tdiv 64) = 1 from by rw [Int.tdiv_eq_ediv_of_nonneg (by omega), IntKind.wrap_i64]; omega) ?_
   refine ε rfl ?_
   refine δ (n := ((k : Nat) : Int)) (show ((n : Nat) : Int).tmod 64 = _ from by rw [Int.tmod_eq_emod_of_nonneg (by omega)]; omega) ?_
   refine ε (decide_eq_true (show (0 : Int) ≤ ((k : Nat) : Int) by omega)) ?_
   refine δ (n := ((2 ^ k : Nat) : Int)) (qy rfl (by omega)) ?_
   refine δ (n := ((m1 ||| 2 ^ k : Nat) : Int)) (vB tp (rA (by omega))) ?_
   refine And.intro (fun j hj => by cases hj) ?_
   refine U (fun iL => ?_) (fun iL => ?_)
   ·have iL : x.lit = 49 := tP.1 iL
    refine υ z6 (by decide +kernel) ?_
    refine ε rfl ?_
    refine δ (n := 1) (show IntKind.i64.wrap (((n : Nat) : Int).tdiv 64) = 1 from by rw [Int.tdiv_eq_ediv_of_nonneg (by omega), IntKind.wrap_i64]; omega) ?_
    refine ε rfl ?_
    refine δ (n := ((k : Nat) : Int)) (show ((n : Nat) : Int).tmod 64 = _ from by rw [Int.tmod_eq_emod_of_nonneg (by omega)]; omega) ?_
    refine ε (decide_eq_true (show (0 : Int) ≤ ((k : Nat) : Int) by omega)) ?_
    refine δ (n := ((2 ^ k : Nat) : Int)) (qy rfl (by omega)) ?_
    refine δ (n := ((w1 ||| 2 ^ k : Nat) : Int)) (vB Ny (rA (by omega))) ?_
    refine And.intro (fun j hj => by cases hj) ?_
    refine δ (n := ((n + 1 : Nat) : Int)) (ag (n := n + 1) (by omega)) ?_
    conv => whnf
    exact ⟨⟨(n + 1, m0, m1 ||| 2 ^ k, w0, w1 ||| 2 ^ k), c, (hO.Na hx xB hk (by omega)).1 iL⟩, π [0, 1, 2] rfl ⟨rfl, rfl, rfl, rfl, rfl, trivial⟩ ⟨rfl, rfl, rfl, trivial⟩, by show R.length - (n + 1) < R.length - n; omega⟩
   ·have iL : ¬ x.lit = 49 := fun e => by rw [tP.2 e] at iL; cases iL
    refine δ (n := ((n + 1 : Nat) : Int)) (ag (n := n + 1) (by omega)) ?_
    conv => whnf
    exact ⟨⟨(n + 1, m0, m1 ||| 2 ^ k, w0, w1), c, (hO.Na hx xB hk (by omega)).2 iL⟩, π [0, 1, 2] rfl ⟨rfl, rfl, rfl, rfl, rfl, trivial⟩ ⟨rfl, rfl, rfl, trivial⟩, by show R.length - (n + 1) < R.length - n; omega⟩
  ·refine δ (n := ((n + 1 : Nat) : Int)) (ag (n := n + 1) (by omega)) ?_
   conv => whnf
   exact ⟨⟨(n + 1, m0, m1, w0, w1), c, hO.skip hx (of_decide_eq_false cl)⟩, π [0, 1, 2] rfl ⟨rfl, rfl, rfl, rfl, rfl, trivial⟩ ⟨rfl, rfl, rfl, trivial⟩, by show R.length - (n + 1) < R.length - n; omega⟩
 ·have c : n = R.length := by have := dE c; omega
  subst c
  have eP : ((R.map aA).drop 0).take R.length = (aE d f).map aA := by rw [← hR, List.drop_zero, List.take_of_length_le (by simp)]
  exact ⟨_, .inr ⟨m0, m1, w0, w1, rfl, hG, by rw [← hR]; exact hO⟩, And.intro (congrArg (fun l => some (rC (.vec 3 l) m0 m1 w0 w1)) eP) rfl⟩
end Go.Proofs.YtcogcbplmkcojaaGreatDoor
