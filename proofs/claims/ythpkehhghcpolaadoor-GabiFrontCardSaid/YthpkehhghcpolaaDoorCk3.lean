/-
  Heads and tables of a file: the two programs' functions.
-/
import Derived.Test.YthpkehhghcpolaaDoorCk2
namespace Go.Proofs.YthpkehhghcpolaaDoor
open Go.IntWalk
set_option maxRecDepth 100000
set_option linter.unusedVariables false
set_option linter.unusedSimpArgs false

/-- The first place of a byte that isn't 0; -1: there is none. -/
def nzI : List UInt8 → Nat → Int
  | [], _ => -1
  | c :: r, i => if ((c.toNat : Int) != 0) = true then (i : Int) else nzI r (i + 1)

theorem nzI_ge : ∀ (l : List UInt8) (i : Nat), -1 ≤ nzI l i ∧ (0 ≤ nzI l i ↔ ∃ c ∈ l, c ≠ 0)
  | [], i => by simp [nzI]
  | c :: r, i => by
    unfold nzI
    by_cases h : c = 0
    · subst h
      have := nzI_ge r (i + 1)
      rw [if_neg (by simp)]
      simpa using this
    · have h' : c.toNat ≠ 0 := fun e => h (UInt8.toNat_inj.1 (by simpa using e))
      rw [if_pos (by simp; omega)]
      refine ⟨by omega, fun _ => ⟨c, by simp, h⟩, fun _ => by omega⟩

theorem nz_runs (n : Int) : Runs Tryd.prog 59 [.int .u8 n] (.t (.bool (n != 0))) := by
  refine Runs.of_call ?_ rfl
  refine CallS.of_fn tab_ok reg_ok Tryd.func59 rfl rfl ?_
  exact And.intro rfl rfl

theorem index_runs (l : List UInt8) (hl : l.length ≤ 211106232532992) : Runs Tryd.prog 99 [.vec 1 (U l), .fn (.func 59) [] []] (.t (.int .i64 (nzI l 0))) := by
  refine Runs.of_call ?_ rfl
  refine CallS.of_fn tab_ok reg_ok Tryd.func99 rfl rfl ?_
  refine loop_on (fun i : Nat => i ≤ l.length ∧ nzI (l.drop i) i = nzI l 0) (fun i => ⟨[(0, .t (.vec 1 (U l))), (1, .t (.fn (.func 59) [] [])), (7, .t (.int .i64 (l.length : Int))), (8, .t (.int .i64 (i : Int)))], []⟩) (fun i => l.length - i) 0 ⟨by omega, rfl⟩ (weak_of ⟨rfl, rfl, congrArg (fun x : Nat => AV.t (.int .i64 (x : Int))) (U_len l), rfl, trivial⟩ rfl) (fun i hi => ?_)
  obtain ⟨hi, hR⟩ := hi
  refine br_intro (fun h => ?_) (fun h => ?_)
  · have h : (i : Int) < (l.length : Int) := of_decide_eq_true h
    have hlt : i < l.length := by omega
    refine opt_intro (U_get _ i hlt) ?_
    refine CallS.pure (nz_runs ((l[i]'hlt).toNat : Int)) rfl ?_
    rw [List.drop_eq_getElem_cons hlt, nzI] at hR
    refine br_intro (fun h2 => ?_) (fun h2 => ?_)
    · rw [if_pos h2] at hR
      rw [← hR]
      exact And.intro rfl rfl
    · rw [if_neg (by rw [h2]; simp)] at hR
      exact ⟨⟨i + 1, by omega, hR⟩, weak_of ⟨rfl, rfl, rfl, congrArg (fun x => AV.t (.int .i64 x)) (by rw [i64_in _ (by omega)]; rfl), trivial⟩ rfl, by show l.length - (i + 1) < l.length - i; omega⟩
  · have h : ¬ (i : Int) < (l.length : Int) := of_decide_eq_false h
    rw [List.drop_of_length_le (by omega), nzI] at hR
    rw [← hR]
    exact And.intro rfl rfl

theorem contains_runs (l : List UInt8) (hl : l.length ≤ 211106232532992) : ∃ b, Runs Tryd.prog 58 [.vec 1 (U l), .fn (.func 59) [] []] (.t (.bool b)) ∧ (b = true ↔ ∃ c ∈ l, c ≠ 0) := by
  refine ⟨decide (nzI l 0 ≥ 0), ?_, by rw [decide_eq_true_iff]; exact (nzI_ge l 0).2⟩
  refine Runs.of_call ?_ rfl
  refine CallS.of_fn tab_ok reg_ok Tryd.func58 rfl rfl ?_
  refine CallS.pure (index_runs l hl) rfl ?_
  exact And.intro rfl rfl

def magic : List UInt8 := [127, 69, 76, 70, 2, 1, 1]

/-- Is the header right? -/
def hdP (bs : List UInt8) : Prop := (64 ≤ bs.length ∧ bs.take 7 = magic ∧ ¬ ∃ c ∈ (bs.drop 9).take 7, c ≠ 0) ∧ (1 ≤ gN bs 16 2 ∧ gN bs 16 2 ≤ 3) ∧ gN bs 20 4 = 1 ∧ gN bs 52 2 = 64
noncomputable instance (bs : List UInt8) : Decidable (hdP bs) := Classical.propDecidable _

theorem head_g (bs : List UInt8) (hb : bs.length ≤ 211106232532992) : Runs Tryd.prog 39 [.vec 1 (U bs)] (.t (.bool (decide (hdP bs)))) := by
  have hx : BX (.vec 1 (U bs)) bs := .vec bs _ rfl
  have fin : ∀ (b : Bool) (h : b = true ↔ hdP bs), some (T.bool b) = some (T.bool (decide (hdP bs))) := fun b h => by
    congr 2
    by_cases hp : hdP bs
    · rw [decide_eq_true hp]; exact h.2 hp
    · rw [decide_eq_false hp]; exact Bool.eq_false_iff.2 fun hh => hp (h.1 hh)
  refine Runs.of_call ?_ rfl
  refine CallS.of_fn tab_ok reg_ok Tryd.func39 rfl rfl ?_
  refine br_intro (fun h => ?_) (fun h => ?_)
  · have h : ((U bs).length : Int) < 64 := of_decide_eq_true h
    rw [U_len] at h
    exact And.intro (fin false (iff_of_false (by simp) (fun hp => by have := hp.1.1; omega))) rfl
  have h : ¬ ((U bs).length : Int) < 64 := of_decide_eq_false h
  rw [U_len] at h
  have e7 : ((U bs).drop 0).take 7 = U (bs.take 7) := by rw [List.drop_zero, U_take]
  refine ck_intro (by rw [U_len]; simp; omega) ?_
  refine ⟨bs.take 7, e7, ?_⟩
  obtain ⟨b, hC, hbC⟩ := contains_runs ((bs.drop 9).take 7) (by simp; omega)
  have e9 : ((U bs).drop (Int.toNat 9)).take (Int.toNat 16 - Int.toNat 9) = U ((bs.drop 9).take 7) := by rw [U_drop, U_take]; rfl
  rw [← e9] at hC
  refine br_intro (fun h2 => ?_) (fun h2 => ?_)
  · have h2 : (!(bs.take 7 == magic)) = true := h2
    have h2 : bs.take 7 ≠ magic := by simpa using h2
    exact And.intro (fin false (iff_of_false (by simp) (fun hp => h2 hp.1.2.1))) rfl
  have h2 : (!(bs.take 7 == magic)) = false := h2
  have h2 : bs.take 7 = magic := by simpa using h2
  refine ck_intro (by rw [U_len]; simp; omega) ?_
  refine CallS.pure hC rfl ?_
  refine br_intro (fun h3 => ?_) (fun h3 => ?_)
  · have h3 : b = true := h3
    exact And.intro (fin false (iff_of_false (by simp) (fun hp => hp.1.2.2 (hbC.1 h3)))) rfl
  have h3 : b = false := h3
  have h3 : ¬ ∃ c ∈ (bs.drop 9).take 7, c ≠ 0 := fun hh => by rw [hbC.2 hh] at h3; cases h3
  have h123 := And.intro (show 64 ≤ bs.length by omega) (And.intro h2 h3)
  refine CallS.pure (num_g hx hb (a := 16) (n := 2) (by omega) (by omega)) rfl ?_
  refine br_intro (fun h4 => ?_) (fun h4 => ?_)
  rotate_left
  · have h4 := of_decide_eq_false h4
    exact And.intro (fin false (iff_of_false (by simp) (fun hp => by have := hp.2.1; omega))) rfl
  have h4 := of_decide_eq_true h4
  refine br_intro (fun h5 => ?_) (fun h5 => ?_)
  rotate_left
  · have h5 : ¬ ((gN bs 16 2 : Nat) : Int) ≤ 3 := of_decide_eq_false h5
    exact And.intro (fin false (iff_of_false (by simp) (fun hp => by have := hp.2.1; omega))) rfl
  have h5 : ((gN bs 16 2 : Nat) : Int) ≤ 3 := of_decide_eq_true h5
  refine CallS.pure (num_g hx hb (a := 20) (n := 4) (by omega) (by omega)) rfl ?_
  refine br_intro (fun h6 => ?_) (fun h6 => ?_)
  rotate_left
  · have h6 : (((gN bs 20 4 : Nat) : Int) == 1) = false := h6
    exact And.intro (fin false (iff_of_false (by simp) (fun hp => by have := hp.2.2.1; rw [this] at h6; cases h6))) rfl
  have h6 : ((gN bs 20 4 : Nat) : Int) = 1 := eq_of_beq h6
  refine CallS.pure (num_g hx hb (a := 52) (n := 2) (by omega) (by omega)) rfl ?_
  refine And.intro (fin (((gN bs 52 2 : Nat) : Int) == 64) ?_) rfl
  rw [beq_iff_eq]
  exact ⟨fun h7 => ⟨h123, by omega, by omega, by omega⟩, fun hp => by have := hp.2.2.2; omega⟩

end Go.Proofs.YthpkehhghcpolaaDoor
