/-
  Heads and tables of a file: the document's functions; tables of both.
-/
import Derived.Test.YthpkehhghcpolaaDoorCk3
namespace Go.Proofs.YthpkehhghcpolaaDoor
open Go.IntWalk
set_option maxRecDepth 100000
set_option linter.unusedVariables false
set_option linter.unusedSimpArgs false

theorem bfin {p : Prop} [Decidable p] (b : Bool) (h : b = true ↔ p) : some (T.bool b) = some (T.bool (decide p)) := by
  congr 2
  by_cases hp : p
  · rw [decide_eq_true hp]; exact h.2 hp
  · rw [decide_eq_false hp]; exact Bool.eq_false_iff.2 fun hh => hp (h.1 hh)

theorem bno {p : Prop} [Decidable p] (h : ¬ p) : some (T.bool false) = some (T.bool (decide p)) := bfin false (iff_of_false (by simp) h)
theorem byes {p : Prop} [Decidable p] (h : p) : some (T.bool true) = some (T.bool (decide p)) := bfin true (iff_of_true rfl h)

theorem head_r (bs : List UInt8) (hb : bs.length ≤ 140737488351232) : Runs Tryd.prog 43 [.vec 1 (U bs)] (.t (.bool (decide (hdP bs)))) := by
  have hx : BX (.vec 1 (U bs)) bs := .vec bs _ rfl
  refine Runs.of_call ?_ rfl
  refine CallS.of_fn tab_ok reg_ok Tryd.func43 rfl rfl ?_
  refine br_intro (fun h => ?_) (fun h => ?_)
  · have h : ((U bs).length : Int) < 64 := of_decide_eq_true h
    rw [U_len] at h
    exact And.intro (bno (fun hp => by have := hp.1.1; omega)) rfl
  have h : ¬ ((U bs).length : Int) < 64 := of_decide_eq_false h
  rw [U_len] at h
  have e7 : ((U bs).drop 0).take 7 = U (bs.take 7) := by rw [List.drop_zero, U_take]
  refine ck_intro (by rw [U_len]; simp; omega) ?_
  refine ⟨bs.take 7, e7, ?_⟩
  refine br_intro (fun h2 => ?_) (fun h2 => ?_)
  · have h2 : (!(bs.take 7 == magic)) = true := h2
    have h2 : bs.take 7 ≠ magic := by simpa using h2
    exact And.intro (bno (fun hp => h2 hp.1.2.1)) rfl
  have h2 : (!(bs.take 7 == magic)) = false := h2
  have h2 : bs.take 7 = magic := by simpa using h2
  refine loop_on (fun i : Nat => 9 ≤ i ∧ i ≤ 16 ∧ ∀ j, 9 ≤ j → j < i → bs[j]? = some 0) (fun i => ⟨[(0, .t (.vec 1 (U bs))), (3, .t (.int .i64 (i : Int)))], []⟩) (fun i => 16 - i) 9 ⟨by omega, by omega, fun j h1 h2 => by omega⟩ (weak_of ⟨rfl, rfl, trivial⟩ rfl) (fun i hi => ?_)
  obtain ⟨i1, i2, i3⟩ := hi
  refine br_intro (fun h4 => ?_) (fun h4 => ?_)
  · have h4 : (i : Int) ≤ 15 := of_decide_eq_true h4
    have hlt : i < bs.length := by omega
    refine opt_intro (U_get _ i hlt) ?_
    refine br_intro (fun h5 => ?_) (fun h5 => ?_)
    · refine And.intro (bno (fun hp => hp.1.2.2 ⟨bs[i]'hlt, ?_, fun e => ?_⟩)) rfl
      · refine List.mem_of_getElem? (i := i - 9) ?_
        rw [List.getElem?_take_of_lt (by omega), List.getElem?_drop, show 9 + (i - 9) = i by omega, List.getElem?_eq_getElem hlt]
      · have h5 : (((bs[i]'hlt).toNat : Int) != 0) = true := h5
        rw [e] at h5
        cases h5
    · have h5 : (((bs[i]'hlt).toNat : Int) != 0) = false := h5
      have h6 : bs[i]? = some 0 := by
        rw [List.getElem?_eq_getElem hlt]
        congr 1
        apply UInt8.toNat_inj.1
        simp at h5
        simpa using h5
      exact ⟨⟨i + 1, by omega, by omega, fun j h7 h8 => by
        by_cases e : j = i
        · exact e ▸ h6
        · exact i3 j h7 (by omega)⟩, weak_of ⟨rfl, congrArg (fun x => AV.t (.int .i64 x)) (by rw [i64_in _ (by omega)]; rfl), trivial⟩ rfl, by show 16 - (i + 1) < 16 - i; omega⟩
  have h4 : ¬ (i : Int) ≤ 15 := of_decide_eq_false h4
  obtain rfl : i = 16 := by omega
  have h3 : ¬ ∃ c ∈ (bs.drop 9).take 7, c ≠ 0 := by
    rintro ⟨c, hc, hne⟩
    obtain ⟨j, hj⟩ := List.getElem?_of_mem hc
    have hj2 : j < 7 := by have := lt_of_getElem? hj; simp at this; omega
    rw [List.getElem?_take_of_lt hj2, List.getElem?_drop, i3 (9 + j) (by omega) (by omega)] at hj
    exact hne (Option.some.inj hj).symm
  have h123 := And.intro (show 64 ≤ bs.length by omega) (And.intro h2 h3)
  refine CallS.pure (num_r hx hb (a := 16) (n := 2) (by omega) (by omega)) rfl ?_
  -- k is 1, 2 or 3
  have rest : ∀ (ok : 1 ≤ gN bs 16 2 ∧ gN bs 16 2 ≤ 3) (b6 b7 : Bool), (b6 = true ↔ gN bs 20 4 = 1) → (b7 = true ↔ gN bs 52 2 = 64) → ((b6 && b7) = true ↔ hdP bs) := fun ok b6 b7 h6 h7 => by
    rw [Bool.and_eq_true, h6, h7]
    exact ⟨fun hh => ⟨h123, ok, hh.1, hh.2⟩, fun hp => hp.2.2⟩
  refine br_intro (fun h5 => ?_) (fun h5 => ?_)
  · have h5 : ((gN bs 16 2 : Nat) : Int) = 1 := eq_of_beq h5
    refine CallS.pure (num_r hx hb (a := 20) (n := 4) (by omega) (by omega)) rfl ?_
    refine br_intro (fun h6 => ?_) (fun h6 => ?_)
    rotate_left
    · have h6 : (((gN bs 20 4 : Nat) : Int) == 1) = false := h6
      exact And.intro (bno (fun hp => by have := hp.2.2.1; rw [this] at h6; cases h6)) rfl
    have h6 : ((gN bs 20 4 : Nat) : Int) = 1 := eq_of_beq h6
    refine CallS.pure (num_r hx hb (a := 52) (n := 2) (by omega) (by omega)) rfl ?_
    refine And.intro (bfin (((gN bs 52 2 : Nat) : Int) == 64) ?_) rfl
    rw [beq_iff_eq]
    exact ⟨fun h7 => ⟨h123, by omega, by omega, by omega⟩, fun hp => by have := hp.2.2.2; omega⟩
  have h5 : (((gN bs 16 2 : Nat) : Int) == 1) = false := h5
  have h5 : gN bs 16 2 ≠ 1 := fun e => by rw [e] at h5; cases h5
  refine br_intro (fun h8 => ?_) (fun h8 => ?_)
  · have h8 : ((gN bs 16 2 : Nat) : Int) = 2 := eq_of_beq h8
    refine CallS.pure (num_r hx hb (a := 20) (n := 4) (by omega) (by omega)) rfl ?_
    refine br_intro (fun h6 => ?_) (fun h6 => ?_)
    rotate_left
    · have h6 : (((gN bs 20 4 : Nat) : Int) == 1) = false := h6
      exact And.intro (bno (fun hp => by have := hp.2.2.1; rw [this] at h6; cases h6)) rfl
    have h6 : ((gN bs 20 4 : Nat) : Int) = 1 := eq_of_beq h6
    refine CallS.pure (num_r hx hb (a := 52) (n := 2) (by omega) (by omega)) rfl ?_
    refine And.intro (bfin (((gN bs 52 2 : Nat) : Int) == 64) ?_) rfl
    rw [beq_iff_eq]
    exact ⟨fun h7 => ⟨h123, by omega, by omega, by omega⟩, fun hp => by have := hp.2.2.2; omega⟩
  have h8 : (((gN bs 16 2 : Nat) : Int) == 2) = false := h8
  have h8 : gN bs 16 2 ≠ 2 := fun e => by rw [e] at h8; cases h8
  refine br_intro (fun h9 => ?_) (fun h9 => ?_)
  rotate_left
  · have h9 : (((gN bs 16 2 : Nat) : Int) == 3) = false := h9
    have h9 : gN bs 16 2 ≠ 3 := fun e => by rw [e] at h9; cases h9
    exact And.intro (bno (fun hp => by have := hp.2.1; omega)) rfl
  have h9 : ((gN bs 16 2 : Nat) : Int) = 3 := eq_of_beq h9
  refine CallS.pure (num_r hx hb (a := 20) (n := 4) (by omega) (by omega)) rfl ?_
  refine br_intro (fun h6 => ?_) (fun h6 => ?_)
  rotate_left
  · have h6 : (((gN bs 20 4 : Nat) : Int) == 1) = false := h6
    exact And.intro (bno (fun hp => by have := hp.2.2.1; rw [this] at h6; cases h6)) rfl
  have h6 : ((gN bs 20 4 : Nat) : Int) = 1 := eq_of_beq h6
  refine CallS.pure (num_r hx hb (a := 52) (n := 2) (by omega) (by omega)) rfl ?_
  refine And.intro (bfin (((gN bs 52 2 : Nat) : Int) == 64) ?_) rfl
  rw [beq_iff_eq]
  exact ⟨fun h7 => ⟨h123, by omega, by omega, by omega⟩, fun hp => by have := hp.2.2.2; omega⟩

/-! ### Tables -/

/-- Is a table of n headers right? -/
def tP (bs : List UInt8) (n size place want : Nat) : Prop := n = 0 ∨ gN bs size 2 = want ∧ 64 ≤ gN bs place 8 ∧ gN bs place 8 + n * want ≤ bs.length
noncomputable instance (bs n size place want) : Decidable (tP bs n size place want) := Classical.propDecidable _

theorem table_g (bs : List UInt8) (hb : bs.length ≤ 140737488351232) (n size place want : Nat) (hn : n < 65536) (hs : size < 100) (hp : place < 100) (hw : want ≤ 64) :
    Runs Tryd.prog 61 [.vec 1 (U bs), .int .u64 (n : Int), .int .u64 (size : Int), .int .u64 (place : Int), .int .u64 (want : Int)] (.t (.bool (decide (tP bs n size place want)))) := by
  have hx : BX (.vec 1 (U bs)) bs := .vec bs _ rfl
  have hmul : n * want < 18446744073709551616 := Nat.lt_of_le_of_lt (Nat.mul_le_mul (Nat.le_of_lt hn) hw) (by omega)
  refine Runs.of_call ?_ rfl
  refine CallS.of_fn tab_ok reg_ok Tryd.func61 rfl rfl ?_
  refine CallS.pure (num_g hx hb (a := place) (n := 8) (by omega) (by omega)) rfl ?_
  refine br_intro (fun h => ?_) (fun h => ?_)
  · have h : (n : Int) = 0 := eq_of_beq h
    exact And.intro (byes (.inl (by omega))) rfl
  have h : ((n : Int) == 0) = false := h
  have h : n ≠ 0 := fun e => by rw [e] at h; cases h
  refine CallS.pure (num_g hx hb (a := size) (n := 2) (by omega) (by omega)) rfl ?_
  refine br_intro (fun h2 => ?_) (fun h2 => ?_)
  rotate_left
  · have h2 : (((gN bs size 2 : Nat) : Int) == (want : Int)) = false := h2
    refine And.intro (bno (fun hp => hp.elim h (fun hp => ?_))) rfl
    rw [hp.1] at h2
    simp at h2
  have h2 : ((gN bs size 2 : Nat) : Int) = (want : Int) := eq_of_beq h2
  refine br_intro (fun h3 => ?_) (fun h3 => ?_)
  rotate_left
  · have h3 : ¬ ((gN bs place 8 : Nat) : Int) ≥ 64 := of_decide_eq_false h3
    exact And.intro (bno (fun hp => hp.elim h (fun hp => by have := hp.2.1; omega))) rfl
  have h3 : ((gN bs place 8 : Nat) : Int) ≥ 64 := of_decide_eq_true h3
  have hW := within_g hx hb (a := gN bs place 8) (n := n * want) (gN_lt _ _ _ (by omega)) hmul
  have em : IntKind.u64.wrap ((n : Int) * (want : Int)) = ((n * want : Nat) : Int) := by rw [← Int.natCast_mul]; exact u64_nat hmul
  rw [← em] at hW
  refine CallS.pure hW rfl ?_
  refine And.intro (bfin (decide (gN bs place 8 + n * want ≤ bs.length)) ?_) rfl
  rw [decide_eq_true_iff]
  exact ⟨fun h4 => .inr ⟨by omega, by omega, h4⟩, fun hp => hp.elim (fun e => absurd e h) (fun hp => hp.2.2)⟩

/-- Are the tables of headers right? -/
def tbP (bs : List UInt8) : Prop := tP bs (gN bs 56 2) 54 32 56 ∧ tP bs (gN bs 60 2) 58 40 64 ∧ (gN bs 60 2 = 0 ∨ gN bs 62 2 < gN bs 60 2)
noncomputable instance (bs) : Decidable (tbP bs) := Classical.propDecidable _

theorem g2_lt (bs : List UInt8) (a : Nat) : gN bs a 2 < 65536 := gN_lt' bs a 2 65536 (by decide) (by omega)
theorem g4_lt (bs : List UInt8) (a : Nat) : gN bs a 4 < 4294967296 := gN_lt' bs a 4 4294967296 (by decide) (by omega)
theorem g8_lt (bs : List UInt8) (a : Nat) : gN bs a 8 < 18446744073709551616 := gN_lt bs a 8 (by omega)

theorem tables_g (bs : List UInt8) (hb : bs.length ≤ 140737488351232) : Runs Tryd.prog 40 [.vec 1 (U bs)] (.t (.bool (decide (tbP bs)))) := by
  have hx : BX (.vec 1 (U bs)) bs := .vec bs _ rfl
  refine Runs.of_call ?_ rfl
  refine CallS.of_fn tab_ok reg_ok Tryd.func40 rfl rfl ?_
  refine CallS.pure (num_g hx hb (a := 56) (n := 2) (by omega) (by omega)) rfl ?_
  refine CallS.pure (num_g hx hb (a := 60) (n := 2) (by omega) (by omega)) rfl ?_
  refine CallS.pure (table_g bs hb (gN bs 56 2) 54 32 56 (g2_lt _ _) (by omega) (by omega) (by omega)) rfl ?_
  refine br_intro (fun h => ?_) (fun h => ?_)
  rotate_left
  · have h := of_decide_eq_false h
    exact And.intro (bno (fun hp => h hp.1)) rfl
  have h := of_decide_eq_true h
  refine CallS.pure (table_g bs hb (gN bs 60 2) 58 40 64 (g2_lt _ _) (by omega) (by omega) (by omega)) rfl ?_
  refine br_intro (fun h2 => ?_) (fun h2 => ?_)
  rotate_left
  · have h2 : ¬ tP bs (gN bs 60 2) 58 40 64 := of_decide_eq_false h2
    exact And.intro (bno (fun hp => h2 hp.2.1)) rfl
  have h2 : tP bs (gN bs 60 2) 58 40 64 := of_decide_eq_true h2
  refine br_intro (fun h3 => ?_) (fun h3 => ?_)
  · have h3 : ((gN bs 60 2 : Nat) : Int) = 0 := eq_of_beq h3
    exact And.intro (byes ⟨h, h2, .inl (by omega)⟩) rfl
  have h3 : (((gN bs 60 2 : Nat) : Int) == 0) = false := h3
  have h3 : gN bs 60 2 ≠ 0 := fun e => by rw [e] at h3; cases h3
  refine CallS.pure (num_g hx hb (a := 62) (n := 2) (by omega) (by omega)) rfl ?_
  refine And.intro (bfin (decide (((gN bs 62 2 : Nat) : Int) < ((gN bs 60 2 : Nat) : Int))) ?_) rfl
  rw [decide_eq_true_iff]
  exact ⟨fun h4 => ⟨h, h2, .inr (by omega)⟩, fun hp => by have := hp.2.2; omega⟩

theorem tables_r (bs : List UInt8) (hb : bs.length ≤ 140737488351232) : Runs Tryd.prog 44 [.vec 1 (U bs)] (.t (.bool (decide (tbP bs)))) := by
  have hx : BX (.vec 1 (U bs)) bs := .vec bs _ rfl
  have g56 := g2_lt bs 56
  have g60 := g2_lt bs 60
  have e56 : IntKind.u64.wrap (((gN bs 56 2 : Nat) : Int) * 56) = ((gN bs 56 2 * 56 : Nat) : Int) := by rw [show ((gN bs 56 2 : Nat) : Int) * 56 = ((gN bs 56 2 * 56 : Nat) : Int) by omega]; exact u64_nat (by omega)
  have e60 : IntKind.u64.wrap (((gN bs 60 2 : Nat) : Int) * 64) = ((gN bs 60 2 * 64 : Nat) : Int) := by rw [show ((gN bs 60 2 : Nat) : Int) * 64 = ((gN bs 60 2 * 64 : Nat) : Int) by omega]; exact u64_nat (by omega)
  have hI56 := in_r (l := bs.length) (a := gN bs 32 8) (n := gN bs 56 2 * 56) hb (g8_lt _ _) (by omega)
  have hI60 := in_r (l := bs.length) (a := gN bs 40 8) (n := gN bs 60 2 * 64) hb (g8_lt _ _) (by omega)
  rw [← e56, ← U_len bs] at hI56
  rw [← e60, ← U_len bs] at hI60
  refine Runs.of_call ?_ rfl
  refine CallS.of_fn tab_ok reg_ok Tryd.func44 rfl rfl ?_
  refine CallS.pure (num_r hx hb (a := 56) (n := 2) (by omega) (by omega)) rfl ?_
  refine CallS.pure (num_r hx hb (a := 60) (n := 2) (by omega) (by omega)) rfl ?_
  refine br_intro (fun h => ?_) (fun h => ?_)
  rotate_left
  · have h : (((gN bs 56 2 : Nat) : Int) != 0) = false := h
    have ok1 : tP bs (gN bs 56 2) 54 32 56 := .inl (by simp at h; omega)
    refine br_intro (fun h2 => ?_) (fun h2 => ?_)
    · have h2 : ((gN bs 60 2 : Nat) : Int) = 0 := eq_of_beq h2
      exact And.intro (byes ⟨ok1, .inl (by omega), .inl (by omega)⟩) rfl
    have h2 : (((gN bs 60 2 : Nat) : Int) == 0) = false := h2
    have h2 : gN bs 60 2 ≠ 0 := fun e => by rw [e] at h2; cases h2
    refine CallS.pure (num_r hx hb (a := 58) (n := 2) (by omega) (by omega)) rfl ?_
    refine br_intro (fun h3 => ?_) (fun h3 => ?_)
    rotate_left
    · have h3 : (((gN bs 58 2 : Nat) : Int) == 64) = false := h3
      refine And.intro (bno (fun hp => hp.2.1.elim h2 (fun hp => ?_))) rfl
      rw [hp.1] at h3; cases h3
    have h3 : ((gN bs 58 2 : Nat) : Int) = 64 := eq_of_beq h3
    refine CallS.pure (num_r hx hb (a := 40) (n := 8) (by omega) (by omega)) rfl ?_
    refine br_intro (fun h4 => ?_) (fun h4 => ?_)
    rotate_left
    · have h4 : ¬ ((gN bs 40 8 : Nat) : Int) ≥ 64 := of_decide_eq_false h4
      exact And.intro (bno (fun hp => hp.2.1.elim h2 (fun hp => by have := hp.2.1; omega))) rfl
    have h4 : ((gN bs 40 8 : Nat) : Int) ≥ 64 := of_decide_eq_true h4
    refine CallS.pure (num_r hx hb (a := 40) (n := 8) (by omega) (by omega)) rfl ?_
    refine CallS.pure hI60 rfl ?_
    refine br_intro (fun h5 => ?_) (fun h5 => ?_)
    rotate_left
    · have h5 : ¬ gN bs 40 8 + gN bs 60 2 * 64 ≤ (U bs).length := of_decide_eq_false h5
      rw [U_len] at h5
      exact And.intro (bno (fun hp => hp.2.1.elim h2 (fun hp => h5 hp.2.2))) rfl
    have h5 : gN bs 40 8 + gN bs 60 2 * 64 ≤ (U bs).length := of_decide_eq_true h5
    rw [U_len] at h5
    refine CallS.pure (num_r hx hb (a := 62) (n := 2) (by omega) (by omega)) rfl ?_
    refine And.intro (bfin (decide (((gN bs 62 2 : Nat) : Int) < ((gN bs 60 2 : Nat) : Int))) ?_) rfl
    rw [decide_eq_true_iff]
    exact ⟨fun h6 => ⟨ok1, .inr ⟨by omega, by omega, h5⟩, .inr (by omega)⟩, fun hp => by have := hp.2.2; omega⟩
  have h : (((gN bs 56 2 : Nat) : Int) != 0) = true := h
  have h : gN bs 56 2 ≠ 0 := by simp at h; omega
  refine CallS.pure (num_r hx hb (a := 54) (n := 2) (by omega) (by omega)) rfl ?_
  refine br_intro (fun q1 => ?_) (fun q1 => ?_)
  · have q1 : (((gN bs 54 2 : Nat) : Int) != 56) = true := q1
    refine And.intro (bno (fun hp => hp.1.elim h (fun hp => ?_))) rfl
    rw [hp.1] at q1; cases q1
  have q1 : (((gN bs 54 2 : Nat) : Int) != 56) = false := q1
  have q1 : gN bs 54 2 = 56 := by simp at q1; omega
  refine CallS.pure (num_r hx hb (a := 32) (n := 8) (by omega) (by omega)) rfl ?_
  refine br_intro (fun q2 => ?_) (fun q2 => ?_)
  · have q2 : ((gN bs 32 8 : Nat) : Int) < 64 := of_decide_eq_true q2
    exact And.intro (bno (fun hp => hp.1.elim h (fun hp => by have := hp.2.1; omega))) rfl
  have q2 : ¬ ((gN bs 32 8 : Nat) : Int) < 64 := of_decide_eq_false q2
  refine CallS.pure (num_r hx hb (a := 32) (n := 8) (by omega) (by omega)) rfl ?_
  refine CallS.pure hI56 rfl ?_
  refine br_intro (fun q3 => ?_) (fun q3 => ?_)
  · have q3 : (!decide (gN bs 32 8 + gN bs 56 2 * 56 ≤ (U bs).length)) = true := q3
    have q3 : ¬ gN bs 32 8 + gN bs 56 2 * 56 ≤ bs.length := by rw [U_len] at q3; simpa using q3
    exact And.intro (bno (fun hp => hp.1.elim h (fun hp => q3 hp.2.2))) rfl
  have q3 : (!decide (gN bs 32 8 + gN bs 56 2 * 56 ≤ (U bs).length)) = false := q3
  have q3 : gN bs 32 8 + gN bs 56 2 * 56 ≤ bs.length := by rw [U_len] at q3; simpa using q3
  have ok1 : tP bs (gN bs 56 2) 54 32 56 := .inr ⟨q1, by omega, q3⟩
  refine br_intro (fun h2 => ?_) (fun h2 => ?_)
  · have h2 : ((gN bs 60 2 : Nat) : Int) = 0 := eq_of_beq h2
    exact And.intro (byes ⟨ok1, .inl (by omega), .inl (by omega)⟩) rfl
  have h2 : (((gN bs 60 2 : Nat) : Int) == 0) = false := h2
  have h2 : gN bs 60 2 ≠ 0 := fun e => by rw [e] at h2; cases h2
  refine CallS.pure (num_r hx hb (a := 58) (n := 2) (by omega) (by omega)) rfl ?_
  refine br_intro (fun h3 => ?_) (fun h3 => ?_)
  rotate_left
  · have h3 : (((gN bs 58 2 : Nat) : Int) == 64) = false := h3
    refine And.intro (bno (fun hp => hp.2.1.elim h2 (fun hp => ?_))) rfl
    rw [hp.1] at h3; cases h3
  have h3 : ((gN bs 58 2 : Nat) : Int) = 64 := eq_of_beq h3
  refine CallS.pure (num_r hx hb (a := 40) (n := 8) (by omega) (by omega)) rfl ?_
  refine br_intro (fun h4 => ?_) (fun h4 => ?_)
  rotate_left
  · have h4 : ¬ ((gN bs 40 8 : Nat) : Int) ≥ 64 := of_decide_eq_false h4
    exact And.intro (bno (fun hp => hp.2.1.elim h2 (fun hp => by have := hp.2.1; omega))) rfl
  have h4 : ((gN bs 40 8 : Nat) : Int) ≥ 64 := of_decide_eq_true h4
  refine CallS.pure (num_r hx hb (a := 40) (n := 8) (by omega) (by omega)) rfl ?_
  refine CallS.pure hI60 rfl ?_
  refine br_intro (fun h5 => ?_) (fun h5 => ?_)
  rotate_left
  · have h5 : ¬ gN bs 40 8 + gN bs 60 2 * 64 ≤ (U bs).length := of_decide_eq_false h5
    rw [U_len] at h5
    exact And.intro (bno (fun hp => hp.2.1.elim h2 (fun hp => h5 hp.2.2))) rfl
  have h5 : gN bs 40 8 + gN bs 60 2 * 64 ≤ (U bs).length := of_decide_eq_true h5
  rw [U_len] at h5
  refine CallS.pure (num_r hx hb (a := 62) (n := 2) (by omega) (by omega)) rfl ?_
  refine And.intro (bfin (decide (((gN bs 62 2 : Nat) : Int) < ((gN bs 60 2 : Nat) : Int))) ?_) rfl
  rw [decide_eq_true_iff]
  exact ⟨fun h6 => ⟨ok1, .inr ⟨by omega, by omega, h5⟩, .inr (by omega)⟩, fun hp => by have := hp.2.2; omega⟩

end Go.Proofs.YthpkehhghcpolaaDoor
