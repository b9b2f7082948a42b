/-
  Heads and tables of a file: the document's functions; tables of both.
-/
import Derived.Test.YthpkehhghcpolaaDoorCk3
namespace Go.Proofs.YthpkehhghcpolaaDoor
open Go.IntWalk
set_option maxRecDepth 100000
set_option linter.unusedVariables false
set_option linter.unusedSimpArgs false

theorem bfin {p : Prop} [Decidable p] (b : Bool) (h : b = true ↔ p) : some (T.bool b) = some (T.bool (decide p)) := by
  congr 2
  by_cases hp : p
  · rw [decide_eq_true hp]; exact h.2 hp
  · rw [decide_eq_false hp]; exact Bool.eq_false_iff.2 fun hh => hp (h.1 hh)

theorem bno {p : Prop} [Decidable p] (h : ¬ p) : some (T.bool false) = some (T.bool (decide p)) := bfin false (iff_of_false (by simp) h)
theorem byes {p : Prop} [Decidable p] (h : p) : some (T.bool true) = some (T.bool (decide p)) := bfin true (iff_of_true rfl h)

/-! ### Tables -/

/-- Is a table of n headers right? -/
def tP (bs : List UInt8) (n size place want : Nat) : Prop := n = 0 ∨ gN bs size 2 = want ∧ 64 ≤ gN bs place 8 ∧ gN bs place 8 + n * want ≤ bs.length
noncomputable instance (bs n size place want) : Decidable (tP bs n size place want) := Classical.propDecidable _

theorem table_g (bs : List UInt8) (hb : bs.length ≤ 211106232532992) (n size place want : Nat) (hn : n < 65536) (hs : size < 100) (hp : place < 100) (hw : want ≤ 64) :
    Runs Tryd.prog 61 [.vec 1 (U bs), .int .u64 (n : Int), .int .u64 (size : Int), .int .u64 (place : Int), .int .u64 (want : Int)] (.t (.bool (decide (tP bs n size place want)))) := by
  have hx : BX (.vec 1 (U bs)) bs := .vec bs _ rfl
  have hmul : n * want < 18446744073709551616 := Nat.lt_of_le_of_lt (Nat.mul_le_mul (Nat.le_of_lt hn) hw) (by omega)
  refine Runs.of_call ?_ rfl
  refine CallS.of_fn tab_ok reg_ok Tryd.func61 rfl rfl ?_
  refine CallS.pure (num_g hx hb (a := place) (n := 8) (by omega) (by omega)) rfl ?_
  refine br_intro (fun h => ?_) (fun h => ?_)
  · have h : (n : Int) = 0 := eq_of_beq h
    exact And.intro (byes (.inl (by omega))) rfl
  have h : ((n : Int) == 0) = false := h
  have h : n ≠ 0 := fun e => by rw [e] at h; cases h
  refine CallS.pure (num_g hx hb (a := size) (n := 2) (by omega) (by omega)) rfl ?_
  refine br_intro (fun h2 => ?_) (fun h2 => ?_)
  rotate_left
  · have h2 : (((gN bs size 2 : Nat) : Int) == (want : Int)) = false := h2
    refine And.intro (bno (fun hp => hp.elim h (fun hp => ?_))) rfl
    rw [hp.1] at h2
    simp at h2
  have h2 : ((gN bs size 2 : Nat) : Int) = (want : Int) := eq_of_beq h2
  refine br_intro (fun h3 => ?_) (fun h3 => ?_)
  rotate_left
  · have h3 : ¬ ((gN bs place 8 : Nat) : Int) ≥ 64 := of_decide_eq_false h3
    exact And.intro (bno (fun hp => hp.elim h (fun hp => by have := hp.2.1; omega))) rfl
  have h3 : ((gN bs place 8 : Nat) : Int) ≥ 64 := of_decide_eq_true h3
  have hW := within_g hx hb (a := gN bs place 8) (n := n * want) (gN_lt _ _ _ (by omega)) hmul
  have em : IntKind.u64.wrap ((n : Int) * (want : Int)) = ((n * want : Nat) : Int) := by rw [← Int.natCast_mul]; exact u64_nat hmul
  rw [← em] at hW
  refine CallS.pure hW rfl ?_
  refine And.intro (bfin (decide (gN bs place 8 + n * want ≤ bs.length)) ?_) rfl
  rw [decide_eq_true_iff]
  exact ⟨fun h4 => .inr ⟨by omega, by omega, h4⟩, fun hp => hp.elim (fun e => absurd e h) (fun hp => hp.2.2)⟩

/-- Are the tables of headers right? -/
def tbP (bs : List UInt8) : Prop := tP bs (gN bs 56 2) 54 32 56 ∧ tP bs (gN bs 60 2) 58 40 64 ∧ (gN bs 60 2 = 0 ∨ gN bs 62 2 < gN bs 60 2)
noncomputable instance (bs) : Decidable (tbP bs) := Classical.propDecidable _

theorem g2_lt (bs : List UInt8) (a : Nat) : gN bs a 2 < 65536 := gN_lt' bs a 2 65536 (by decide) (by omega)
theorem g4_lt (bs : List UInt8) (a : Nat) : gN bs a 4 < 4294967296 := gN_lt' bs a 4 4294967296 (by decide) (by omega)
theorem g8_lt (bs : List UInt8) (a : Nat) : gN bs a 8 < 18446744073709551616 := gN_lt bs a 8 (by omega)

theorem tables_g (bs : List UInt8) (hb : bs.length ≤ 211106232532992) : Runs Tryd.prog 40 [.vec 1 (U bs)] (.t (.bool (decide (tbP bs)))) := by
  have hx : BX (.vec 1 (U bs)) bs := .vec bs _ rfl
  refine Runs.of_call ?_ rfl
  refine CallS.of_fn tab_ok reg_ok Tryd.func40 rfl rfl ?_
  refine CallS.pure (num_g hx hb (a := 56) (n := 2) (by omega) (by omega)) rfl ?_
  refine CallS.pure (num_g hx hb (a := 60) (n := 2) (by omega) (by omega)) rfl ?_
  refine CallS.pure (table_g bs hb (gN bs 56 2) 54 32 56 (g2_lt _ _) (by omega) (by omega) (by omega)) rfl ?_
  refine br_intro (fun h => ?_) (fun h => ?_)
  rotate_left
  · have h := of_decide_eq_false h
    exact And.intro (bno (fun hp => h hp.1)) rfl
  have h := of_decide_eq_true h
  refine CallS.pure (table_g bs hb (gN bs 60 2) 58 40 64 (g2_lt _ _) (by omega) (by omega) (by omega)) rfl ?_
  refine br_intro (fun h2 => ?_) (fun h2 => ?_)
  rotate_left
  · have h2 : ¬ tP bs (gN bs 60 2) 58 40 64 := of_decide_eq_false h2
    exact And.intro (bno (fun hp => h2 hp.2.1)) rfl
  have h2 : tP bs (gN bs 60 2) 58 40 64 := of_decide_eq_true h2
  refine br_intro (fun h3 => ?_) (fun h3 => ?_)
  · have h3 : ((gN bs 60 2 : Nat) : Int) = 0 := eq_of_beq h3
    exact And.intro (byes ⟨h, h2, .inl (by omega)⟩) rfl
  have h3 : (((gN bs 60 2 : Nat) : Int) == 0) = false := h3
  have h3 : gN bs 60 2 ≠ 0 := fun e => by rw [e] at h3; cases h3
  refine CallS.pure (num_g hx hb (a := 62) (n := 2) (by omega) (by omega)) rfl ?_
  refine And.intro (bfin (decide (((gN bs 62 2 : Nat) : Int) < ((gN bs 60 2 : Nat) : Int))) ?_) rfl
  rw [decide_eq_true_iff]
  exact ⟨fun h4 => ⟨h, h2, .inr (by omega)⟩, fun hp => by have := hp.2.2; omega⟩

end Go.Proofs.YthpkehhghcpolaaDoor
