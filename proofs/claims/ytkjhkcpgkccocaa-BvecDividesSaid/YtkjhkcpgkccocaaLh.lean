/-
  The document's answer on bits: division with signs; bit by bit; shifts.
-/
import Derived.Test.YtkjhkcpgkccocaaLg
namespace Go.Proofs.Ytkjhkcpgkccocaa
open Go.IntWalk
set_option maxRecDepth 100000
set_option linter.unusedVariables false
set_option linter.unusedSimpArgs false

def rsign (s : Bool) (x w : Nat) : Bool := s && x.testBit (w - 1)
def rabs (s : Bool) (x w : Nat) : Nat := if rsign s x w then negW x w else x
def rquo (s : Bool) (x y w : Nat) : Nat := if y = 0 then 2 ^ w - 1 else if rsign s x w != rsign s y w then negW (rabs s x w / rabs s y w) w else rabs s x w / rabs s y w
def rrem (s : Bool) (x y w : Nat) : Nat := if y = 0 then x else if rsign s x w then negW (rabs s x w % rabs s y w) w else rabs s x w % rabs s y w

theorem negW_lt (x w : Nat) : negW x w < 2 ^ w := Nat.mod_lt _ (Nat.pow_pos (by omega))
theorem negW_pos {x w : Nat} (h : 0 < x) (hx : x < 2 ^ w) : 0 < negW x w := by
  unfold negW
  rw [Nat.mod_eq_of_lt hx, Nat.mod_eq_of_lt (by omega)]
  omega

theorem vB_of {l : List Bool} {L : List T} (h : L = LB l) : some (T.vec 1 L) = some (T.vec 1 (LB l)) := by rw [h]

theorem rdivide_runs {L L' : List T} (x y w : Nat) (s : Bool) (h : L = LB (bitsL x w)) (h' : L' = LB (bitsL y w)) (hw1 : 1 ≤ w) (hw : w ≤ 400) (hx : x < 2 ^ w) (hy : y < 2 ^ w) :
    Runs Try.prog 60 [.vec 1 L, .vec 1 L', .bool s] (.tup [vB (bitsL (rquo s x y w) w), vB (bitsL (rrem s x y w) w)]) := by
  subst h h'
  have hsome := some_runs y w rfl (by omega : w ≤ 1000)
  rw [Nat.mod_eq_of_lt hy] at hsome
  have hall : ∀ n, ((LB (bitsL n w)).drop 0).take (LB (bitsL n w)).length = LB (bitsL n w) := fun n => LB_all _
  refine Runs.of_call ?_ rfl
  refine CallS.of_fn tab_ok reg_ok Try.func60 rfl rfl ?_
  refine CallS.pure hsome rfl ?_
  refine br_intro (fun h0 => ?_) (fun h0 => ?_)
  · have h0 : y = 0 := by simpa using h0
    subst h0
    have hz := zeros_runs w (by omega)
    rw [← LBb_len x w] at hz
    refine CallS.pure hz rfl ?_
    refine CallS.snap (rnot_runs 0 w ((LB_all (bitsL 0 (LB (bitsL x w)).length)).trans (by rw [LBb_len])) (by omega)) rfl (oB_flat _) ?_
    have e : compl 0 w = rquo s x 0 w := by rw [rquo, if_pos rfl, compl, Nat.zero_mod]; rfl
    have e2 : x = rrem s x 0 w := by rw [rrem, if_pos rfl]
    exact And.intro ⟨vB_of ((LB_all _).trans (by rw [e])), vB_of (by rw [← e2]), trivial⟩ rfl
  have h0 : ¬ y = 0 := by simpa using h0
  have hy0 : 0 < y := by omega
  have hquo : rquo s x y w = if rsign s x w != rsign s y w then negW (rabs s x w / rabs s y w) w else rabs s x w / rabs s y w := by rw [rquo, if_neg h0]
  have hrem : rrem s x y w = if rsign s x w then negW (rabs s x w % rabs s y w) w else rabs s x w % rabs s y w := by rw [rrem, if_neg h0]
  cases s
  · have q1 : rquo false x y w = x / y := hquo
    have r1 : rrem false x y w = x % y := hrem
    refine CallS.frz (rdiv_runs x y w rfl rfl hw hx hy hy0) rfl ?_
    exact And.intro ⟨vB_of (by rw [q1]), vB_of (by rw [r1]), trivial⟩ rfl
  · have sa := sign_runs x w rfl hw1 (by omega : w ≤ 1000)
    have sb := sign_runs y w rfl hw1 (by omega : w ≤ 1000)
    have na := rneg_runs x w rfl (by omega : w ≤ 1000)
    have nb := rneg_runs y w rfl (by omega : w ≤ 1000)
    have hn0 := negW_pos hy0 hy
    cases ha : x.testBit (w - 1) <;> cases hb : y.testBit (w - 1) <;> rw [ha] at sa <;> rw [hb] at sb
    · have q1 : rquo true x y w = ((x) / (y)) := by rw [hquo]; simp [rsign, rabs, ha, hb]
      have r1 : rrem true x y w = ((x) % (y)) := by rw [hrem]; simp [rsign, rabs, ha, hb]
      refine CallS.snap sa rfl rfl ?_
      refine CallS.snap sb rfl rfl ?_
      refine CallS.frz (rdiv_runs (x) (y) w rfl rfl hw hx hy hy0) rfl ?_
      refine CallS.snap sa rfl rfl ?_
      refine CallS.snap sb rfl rfl ?_
      refine CallS.snap sa rfl rfl ?_
      exact And.intro ⟨vB_of (by rw [q1]), vB_of (by rw [r1]), trivial⟩ rfl
    · have q1 : rquo true x y w = negW ((x) / (negW y w)) w := by rw [hquo]; simp [rsign, rabs, ha, hb]
      have r1 : rrem true x y w = ((x) % (negW y w)) := by rw [hrem]; simp [rsign, rabs, ha, hb]
      refine CallS.snap sa rfl rfl ?_
      refine CallS.snap sb rfl rfl ?_
      refine CallS.snap nb rfl (oB_flat _) ?_
      refine CallS.frz (rdiv_runs (x) (negW y w) w rfl (hall _) hw hx (negW_lt y w) hn0) rfl ?_
      refine CallS.snap sa rfl rfl ?_
      refine CallS.snap sb rfl rfl ?_
      refine CallS.snap (rneg_runs ((x) / (negW y w)) w rfl (by omega : w ≤ 1000)) rfl (oB_flat _) ?_
      refine CallS.snap sa rfl rfl ?_
      exact And.intro ⟨vB_of ((LB_all _).trans (by rw [q1])), vB_of (by rw [r1]), trivial⟩ rfl
    · have q1 : rquo true x y w = negW ((negW x w) / (y)) w := by rw [hquo]; simp [rsign, rabs, ha, hb]
      have r1 : rrem true x y w = negW ((negW x w) % (y)) w := by rw [hrem]; simp [rsign, rabs, ha, hb]
      refine CallS.snap sa rfl rfl ?_
      refine CallS.snap na rfl (oB_flat _) ?_
      refine CallS.snap sb rfl rfl ?_
      refine CallS.frz (rdiv_runs (negW x w) (y) w (hall _) rfl hw (negW_lt x w) hy hy0) rfl ?_
      refine CallS.snap sa rfl rfl ?_
      refine CallS.snap sb rfl rfl ?_
      refine CallS.snap (rneg_runs ((negW x w) / (y)) w rfl (by omega : w ≤ 1000)) rfl (oB_flat _) ?_
      refine CallS.snap sa rfl rfl ?_
      refine CallS.snap (rneg_runs ((negW x w) % (y)) w rfl (by omega : w ≤ 1000)) rfl (oB_flat _) ?_
      exact And.intro ⟨vB_of ((LB_all _).trans (by rw [q1])), vB_of ((LB_all _).trans (by rw [r1])), trivial⟩ rfl
    · have q1 : rquo true x y w = ((negW x w) / (negW y w)) := by rw [hquo]; simp [rsign, rabs, ha, hb]
      have r1 : rrem true x y w = negW ((negW x w) % (negW y w)) w := by rw [hrem]; simp [rsign, rabs, ha, hb]
      refine CallS.snap sa rfl rfl ?_
      refine CallS.snap na rfl (oB_flat _) ?_
      refine CallS.snap sb rfl rfl ?_
      refine CallS.snap nb rfl (oB_flat _) ?_
      refine CallS.frz (rdiv_runs (negW x w) (negW y w) w (hall _) (hall _) hw (negW_lt x w) (negW_lt y w) hn0) rfl ?_
      refine CallS.snap sa rfl rfl ?_
      refine CallS.snap sb rfl rfl ?_
      refine CallS.snap sa rfl rfl ?_
      refine CallS.snap (rneg_runs ((negW x w) % (negW y w)) w rfl (by omega : w ≤ 1000)) rfl (oB_flat _) ?_
      exact And.intro ⟨vB_of (by rw [q1]), vB_of ((LB_all _).trans (by rw [r1])), trivial⟩ rfl

end Go.Proofs.Ytkjhkcpgkccocaa
