/-
  Does a number fit a width? (turned from the layer below)
-/
import Derived.Test.YtnjmeadmkbkikaaGreatDoorIi
namespace Go.Proofs.YtnjmeadmkbkikaaGreatDoor
open Go.IntWalk
set_option maxRecDepth 100000
set_option linter.unusedVariables false
set_option linter.unusedSimpArgs false
set_option maxHeartbeats 4000000

theorem i64_in (n : Int) (h : -9223372036854775808 ≤ n ∧ n ≤ 9223372036854775807) : IntKind.i64.wrap n = n := by rw [IntKind.wrap_i64]; omega
def fitsU (n w : Int) : Bool := decide (1 ≤ w ∧ 0 ≤ n ∧ (63 ≤ w ∨ n.toNat / 2 ^ w.toNat = 0))
def fitsS (n w : Int) : Bool := decide (1 ≤ w ∧ (64 ≤ w ∨ n.fdiv (2 ^ (w - 1).toNat) = n.fdiv 9223372036854775808))

theorem fitsU_runs (n w : Int) : Runs Tryz.prog 41 [.int .i64 n, .int .i64 w] (.t (.bool (fitsU n w))) := by
  refine Runs.of_call ?_ rfl
  refine CallS.of_fn tabS_ok regS_ok Tryz.func41 rfl rfl ?_
  refine br_intro (fun h => ?_) (fun h => ?_)
  · have h := of_decide_eq_true h
    refine br_intro (fun h2 => ?_) (fun h2 => ?_)
    · have h2 := of_decide_eq_true h2
      refine br_intro (fun h3 => ?_) (fun h3 => ?_)
      · have h3 := of_decide_eq_true h3
        rw [show fitsU n w = true from decide_eq_true ⟨by omega, by omega, .inl (by omega)⟩]
        exact And.intro rfl rfl
      · have h3 := of_decide_eq_false h3
        refine ck_intro (by simp; omega) ?_
        obtain ⟨k, rfl⟩ := Int.eq_ofNat_of_zero_le h2
        obtain ⟨q, hq⟩ : ∃ q, q = k / 2 ^ w.toNat := ⟨_, rfl⟩
        refine st_intro (n := ((q : Nat) : Int)) (by
          rw [show IntKind.i64.bits = 64 from rfl, Nat.min_eq_left (by omega), Int.fdiv_eq_ediv_of_nonneg _ (by exact Int.le_of_lt (Int.pow_pos (by omega))), hq]
          simp) ?_
        refine And.intro (congrArg (fun b => some (T.bool b)) ?_) rfl
        rw [fitsU, Int.toNat_natCast, ← hq]
        by_cases hz : q = 0
        · rw [hz]; simp; omega
        · rw [decide_eq_false (fun hh => by omega)]
          simp
          omega
    · have h2 := of_decide_eq_false h2
      rw [show fitsU n w = false from decide_eq_false (fun hh => by omega)]
      exact And.intro rfl rfl
  · have h := of_decide_eq_false h
    rw [show fitsU n w = false from decide_eq_false (fun hh => by omega)]
    exact And.intro rfl rfl

theorem fitsS_runs (n w : Int) (hn : -9223372036854775808 ≤ n ∧ n ≤ 9223372036854775807) : Runs Tryz.prog 42 [.int .i64 n, .int .i64 w] (.t (.bool (fitsS n w))) := by
  refine Runs.of_call ?_ rfl
  refine CallS.of_fn tabS_ok regS_ok Tryz.func42 rfl rfl ?_
  refine br_intro (fun h => ?_) (fun h => ?_)
  · have h := of_decide_eq_true h
    refine br_intro (fun h3 => ?_) (fun h3 => ?_)
    · have h3 := of_decide_eq_true h3
      rw [show fitsS n w = true from decide_eq_true ⟨by omega, .inl (by omega)⟩]
      exact And.intro rfl rfl
    · have h3 := of_decide_eq_false h3
      refine st_intro (n := w - 1) (i64_in _ (by omega)) ?_
      refine ck_intro (by simp; omega) ?_
      obtain ⟨q, hq⟩ : ∃ q, q = n.fdiv (2 ^ (w - 1).toNat) := ⟨_, rfl⟩
      obtain ⟨g, hg⟩ : ∃ g, g = n.fdiv 9223372036854775808 := ⟨_, rfl⟩
      refine st_intro (n := q) (by rw [show IntKind.i64.bits = 64 from rfl, Nat.min_eq_left (by omega), hq]) ?_
      refine st_intro (n := g) hg.symm ?_
      refine And.intro (congrArg (fun b => some (T.bool b)) ?_) rfl
      rw [fitsS, ← hq, ← hg]
      by_cases hz : q = g
      · rw [decide_eq_true ⟨h, .inr hz⟩]
        exact beq_iff_eq.2 hz
      · rw [decide_eq_false (fun hh => by obtain ⟨_, k | k⟩ := hh <;> first | omega | exact hz k)]
        exact beq_eq_false_iff_ne.2 hz
  · have h := of_decide_eq_false h
    rw [show fitsS n w = false from decide_eq_false (fun hh => by omega)]
    exact And.intro rfl rfl

end Go.Proofs.YtnjmeadmkbkikaaGreatDoor
