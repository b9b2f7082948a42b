/-
  Texts, heads and tables of a file: the two programs' functions.
-/
import Derived.Test.YthpkehhghcpolaaDoorCk1
namespace Go.Proofs.YthpkehhghcpolaaDoor
open Go.IntWalk
set_option maxRecDepth 100000
set_option linter.unusedVariables false
set_option linter.unusedSimpArgs false

/-- Does a text stand there that a byte 0 ends? -/
def tx (bs : List UInt8) (a : Nat) : Prop := ∃ i, a ≤ i ∧ bs[i]? = some 0
noncomputable instance (bs : List UInt8) (a : Nat) : Decidable (tx bs a) := Classical.propDecidable _

theorem zAt_tx {bs : List UInt8} {a : Nat} : zAt bs (a : Int) ≠ -1 ↔ tx bs a := by
  unfold zAt tx
  rw [Int.toNat_natCast]
  constructor
  · intro h
    have hg := Lib.indexByte_ge (bs.drop a) 0
    obtain ⟨o, ho⟩ : ∃ o : Nat, Lib.indexByte (bs.drop a) 0 = o := ⟨(Lib.indexByte (bs.drop a) 0).toNat, by omega⟩
    have := (Lib.indexByte_some ho).1
    rw [List.getElem?_drop] at this
    exact ⟨a + o, by omega, this⟩
  · rintro ⟨i, h1, h2⟩ h
    have := Lib.indexByte_none h (i - a)
    rw [List.getElem?_drop, show a + (i - a) = i by omega] at this
    exact this h2

theorem text_g {x : T} {bs : List UInt8} (hx : BX x bs) (hb : bs.length ≤ 211106232532992) {a : Nat} (ha : a < 18446744073709551616) :
    Runs Tryd.prog 66 [x, .int .u64 (a : Int)] (.t (.bool (decide (tx bs a)))) := by
  cases hx with
  | nil =>
    rw [decide_eq_false (show ¬ tx [] a from fun ⟨i, _, h⟩ => by simp at h)]
    refine Runs.of_call ?_ rfl
    refine CallS.of_fn tab_ok reg_ok Tryd.func66 rfl rfl ?_
    exact And.intro rfl rfl
  | vec bs L e =>
    subst e
    refine Runs.of_call ?_ rfl
    refine CallS.of_fn tab_ok reg_ok Tryd.func66 rfl rfl ?_
    refine br_intro (fun h => ?_) (fun h => ?_)
    · have h := of_decide_eq_true h
      rw [U_len, u64_nat (by omega)] at h
      rw [decide_eq_false (show ¬ tx bs a from fun ⟨i, h1, h2⟩ => by have := lt_of_getElem? h2; omega)]
      exact And.intro rfl rfl
    · have h := of_decide_eq_false h
      rw [U_len, u64_nat (by omega)] at h
      have hT := text_runs bs (by omega) (a : Int)
      rw [← i64_nat (n := a) (by omega)] at hT
      by_cases ht : tx bs a
      · rw [textR, if_pos ⟨⟨by rw [i64_nat (by omega)]; omega, by rw [i64_nat (by omega)]; omega⟩, by rw [i64_nat (by omega)]; exact zAt_tx.2 ht⟩] at hT
        rw [decide_eq_true ht]
        refine CallS.pure hT rfl ?_
        exact And.intro rfl rfl
      · rw [textR, if_neg (fun hh => ht (zAt_tx.1 (by have := hh.2; rw [i64_nat (by omega)] at this; exact this)))] at hT
        rw [decide_eq_false ht]
        refine CallS.pure hT rfl ?_
        exact And.intro rfl rfl

end Go.Proofs.YthpkehhghcpolaaDoor
