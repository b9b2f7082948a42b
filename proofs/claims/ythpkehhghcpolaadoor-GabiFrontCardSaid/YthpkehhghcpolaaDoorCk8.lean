/-
  Symbol tables of a file: the program's function.
-/
import Derived.Test.YthpkehhghcpolaaDoorCk7
namespace Go.Proofs.YthpkehhghcpolaaDoor
open Go.IntWalk
set_option maxRecDepth 100000
set_option linter.unusedVariables false
set_option linter.unusedSimpArgs false

def ordSym : Ord := (.op 0 [] (.op 1 [0] (.op 3 [1, 0] (.op 4 [3, 1, 0] (.op 5 [4, 3, 1, 0] (.op 6 [4, 3, 1, 0] (.op 7 [3, 1, 0] (.op 8 [3, 1, 0] (.op 2 [8, 7, 6, 5, 4, 3] (.op 9 [] (.op 10 [] (.op 11 [] .nil))))))))))))

/-- A header's cells in a variable. -/
def secC (bs : List UInt8) (i : Nat) : List AV := [.t (.int .u64 (hF bs i 0 4 : Nat)), .t (.int .u64 (hF bs i 4 4 : Nat)), .t (.int .u64 (hF bs i 24 8 : Nat)), .t (.int .u64 (hF bs i 32 8 : Nat)), .t (.int .u64 (hF bs i 40 4 : Nat)), .t (.int .u64 (hF bs i 44 4 : Nat)), .t (.int .u64 (hF bs i 48 8 : Nat)), .t (.int .u64 (hF bs i 56 8 : Nat))]

/-- The byte of a symbol that tells its binding. -/
def sBy (b : List UInt8) (k : Nat) : Nat := (b.getD (24 * k + 4) 0).toNat

/-- Is a symbol right? -/
def syOK (bs : List UInt8) (i k : Nat) : Prop :=
  ¬ (0 < k ∧ k < hF bs i 44 4 ∧ sBy (sB bs i) k / 16 ≠ 0) ∧ ¬ (hF bs i 44 4 ≤ k ∧ sBy (sB bs i) k / 16 = 0) ∧ tx (sB bs (hF bs i 40 4)) (gN (sB bs i) (24 * k) 4)

/-- Is a symbol table right? -/
def syP (bs : List UInt8) (i : Nat) : Prop :=
  hF bs i 56 8 = 24 ∧ hF bs i 32 8 % 24 = 0 ∧ hF bs i 32 8 / 24 ≠ 0 ∧ hF bs i 40 4 < gN bs 60 2 ∧ hF bs i 44 4 ≤ hF bs i 32 8 / 24 ∧ ∀ k, k < hF bs i 32 8 / 24 → syOK bs i k
noncomputable instance (bs i) : Decidable (syP bs i) := Classical.propDecidable _

theorem tdivN (a m : Nat) (ha : a < 18446744073709551616) : IntKind.u64.wrap ((a : Int).tdiv (m : Int)) = ((a / m : Nat) : Int) := by
  rw [show (a : Int).tdiv (m : Int) = ((a / m : Nat) : Int) from (Int.ofNat_tdiv a m).symm]
  exact u64_nat (Nat.lt_of_le_of_lt (Nat.div_le_self _ _) ha)
theorem tmodN (a m : Nat) : (a : Int).tmod (m : Int) = ((a % m : Nat) : Int) := (Int.ofNat_tmod a m).symm

set_option maxHeartbeats 4000000 in
theorem symbols_g (bs : List UInt8) (hb : bs.length ≤ 211106232532992) (i : Nat) (hw : hF bs i 24 8 + hF bs i 32 8 ≤ bs.length) :
    Runs Tryd.prog 67 [.vec 1 (U bs), .vec 8 (secL bs (gN bs 60 2)), secT bs i] (.t (.bool (decide (syP bs i)))) := by
  have hcnt := g2_lt bs 60
  have l32 := hF_lt8 bs i 32
  have l40 := hF_lt4 bs i 40
  have l44 := hF_lt4 bs i 44
  have hbl := sB_len hw
  have hB := bytes_g bs hb i
  have hsT : sT bs i = .vec 1 (U (sB bs i)) := by rw [sT, sB, if_pos hw, if_pos hw]
  rw [hsT] at hB
  have hxB : BX (.vec 1 (U (sB bs i))) (sB bs i) := .vec _ _ rfl
  have hbb : (sB bs i).length ≤ 211106232532992 := by have := sB_le bs i; omega
  have hnl : (sB bs (hF bs i 40 4)).length ≤ 211106232532992 := by have := sB_le bs (hF bs i 40 4); omega
  have hL := bytes_g bs hb (hF bs i 40 4)
  have hnB := sT_BX bs (hF bs i 40 4)
  generalize hnt : sT bs (hF bs i 40 4) = nt at hL hnB
  generalize hnm : sB bs (hF bs i 40 4) = nm at hnl hnB
  have hdv : IntKind.u64.wrap (((hF bs i 32 8 : Nat) : Int).tdiv 24) = ((hF bs i 32 8 / 24 : Nat) : Int) := tdivN _ 24 l32
  refine Runs.of_call ?_ rfl
  refine CallS.of_fn tab_ok reg_ok Tryd.func67 rfl rfl ?_
  refine br_intro (fun c1 => ?_) (fun c1 => ?_)
  · have c1 : ((hF bs i 56 8 : Nat) : Int) ≠ 24 := neT c1
    exact And.intro (bno (fun hp => by have := hp.1; omega)) rfl
  have c1 : ((hF bs i 56 8 : Nat) : Int) = 24 := neB c1
  refine br_intro (fun c2 => ?_) (fun c2 => ?_)
  · have c2 : ((hF bs i 32 8 : Nat) : Int).tmod 24 ≠ 0 := neT c2
    rw [show ((hF bs i 32 8 : Nat) : Int).tmod 24 = ((hF bs i 32 8 % 24 : Nat) : Int) from tmodN _ 24] at c2
    exact And.intro (bno (fun hp => by have := hp.2.1; omega)) rfl
  have c2 : ((hF bs i 32 8 : Nat) : Int).tmod 24 = 0 := neB c2
  rw [show ((hF bs i 32 8 : Nat) : Int).tmod 24 = ((hF bs i 32 8 % 24 : Nat) : Int) from tmodN _ 24] at c2
  refine br_intro (fun c3 => ?_) (fun c3 => ?_)
  · have c3 : IntKind.u64.wrap (((hF bs i 32 8 : Nat) : Int).tdiv 24) = 0 := eq_of_beq c3
    rw [hdv] at c3
    exact And.intro (bno (fun hp => by have := hp.2.2.1; omega)) rfl
  have c3 : IntKind.u64.wrap (((hF bs i 32 8 : Nat) : Int).tdiv 24) ≠ 0 := eqF c3
  rw [hdv] at c3
  have hsl : IntKind.u64.wrap ((secL bs (gN bs 60 2)).length : Int) = ((gN bs 60 2 : Nat) : Int) := by rw [secL_len]; exact u64_nat (by omega)
  refine br_intro (fun c4 => ?_) (fun c4 => ?_)
  · have c4 : ((hF bs i 40 4 : Nat) : Int) ≥ IntKind.u64.wrap ((secL bs (gN bs 60 2)).length : Int) := of_decide_eq_true c4
    rw [hsl] at c4
    exact And.intro (bno (fun hp => by have := hp.2.2.2.1; omega)) rfl
  have c4 : ¬ ((hF bs i 40 4 : Nat) : Int) ≥ IntKind.u64.wrap ((secL bs (gN bs 60 2)).length : Int) := of_decide_eq_false c4
  rw [hsl] at c4
  refine br_intro (fun c5 => ?_) (fun c5 => ?_)
  · have c5 : ((hF bs i 44 4 : Nat) : Int) > IntKind.u64.wrap (((hF bs i 32 8 : Nat) : Int).tdiv 24) := of_decide_eq_true c5
    rw [hdv] at c5
    exact And.intro (bno (fun hp => by have := hp.2.2.2.2.1; omega)) rfl
  have c5 : ¬ ((hF bs i 44 4 : Nat) : Int) > IntKind.u64.wrap (((hF bs i 32 8 : Nat) : Int).tdiv 24) := of_decide_eq_false c5
  rw [hdv] at c5
  have hall : (∀ k, k < hF bs i 32 8 / 24 → syOK bs i k) ↔ syP bs i :=
    ⟨fun h => ⟨by omega, by omega, by omega, by omega, by omega, h⟩, fun h => h.2.2.2.2.2⟩
  refine draw_intro ordSym (by decide +kernel) ?_
  refine opt_intro (secL_get (show (((hF bs i 40 4 : Nat) : Int)).toNat < gN bs 60 2 by rw [Int.toNat_natCast]; omega)) ?_
  refine CallS.frz hB rfl ?_
  refine And.intro (fun j _ => LeX.append _ _ _) ?_
  cases hnB with
  | vec nm L e =>
    subst e
    have hTx : ∀ a : Nat, a < 18446744073709551616 → Runs Tryd.prog 66 [.vec 1 (U nm), .int .u64 (a : Int)] (.t (.bool (decide (tx nm a)))) := fun a ha => text_g (.vec nm _ rfl) hnl ha
    refine CallS.pure hL rfl ?_
    refine And.intro (fun j hj => by cases hj) ?_
    refine And.intro (fun j hj => by cases hj) ?_
    refine And.intro (fun j hj => by cases hj) ?_
    refine loop_on (fun k : Nat => k ≤ hF bs i 32 8 / 24 ∧ ∀ j, j < k → syOK bs i j) (fun k => ⟨[(5, .ptr 0 0 0 0), (7, .t (.int .u64 (IntKind.u64.wrap (((hF bs i 32 8 : Nat) : Int).tdiv 24)))), (8, .t (.vec 1 (U (sB bs i)))), (9, .t (.vec 1 (U nm))), (52, .t (.int .u64 (IntKind.u64.wrap (((hF bs i 32 8 : Nat) : Int).tdiv 24)))), (53, .t (.int .u64 (k : Int)))], [.box (secC bs i)]⟩)
      (fun k => hF bs i 32 8 / 24 - k) 0 ⟨Nat.zero_le _, fun j hj => by omega⟩ (weak_of ⟨rfl, rfl, rfl, rfl, rfl, rfl, trivial⟩ rfl) (fun k hk => ?_)
    obtain ⟨k1, k2⟩ := hk
    refine br_intro (fun h => ?_) (fun h => ?_)
    rotate_left
    · have h : ¬ (k : Int) < IntKind.u64.wrap (((hF bs i 32 8 : Nat) : Int).tdiv 24) := of_decide_eq_false h
      rw [hdv] at h
      obtain rfl : k = hF bs i 32 8 / 24 := by omega
      exact And.intro (byes (hall.1 k2)) rfl
    have h : (k : Int) < IntKind.u64.wrap (((hF bs i 32 8 : Nat) : Int).tdiv 24) := of_decide_eq_true h
    rw [hdv] at h
    have hlt : 24 * k + 24 ≤ hF bs i 32 8 := by omega
    have e24 : IntKind.u64.wrap (24 * (k : Int)) = ((24 * k : Nat) : Int) := by rw [show 24 * (k : Int) = ((24 * k : Nat) : Int) by omega]; exact u64_nat (by omega)
    have e28 : IntKind.u64.wrap (IntKind.u64.wrap (24 * (k : Int)) + 4) = ((24 * k + 4 : Nat) : Int) := by rw [e24, show ((24 * k : Nat) : Int) + 4 = ((24 * k + 4 : Nat) : Int) by omega]; exact u64_nat (by omega)
    have hkb : 24 * k + 4 < (sB bs i).length := by omega
    refine opt_intro (show (U (sB bs i))[(IntKind.u64.wrap (IntKind.u64.wrap (24 * (k : Int)) + 4)).toNat]? = some _ by rw [e28, Int.toNat_natCast]; exact U_get _ _ hkb) ?_
    have hby : sBy (sB bs i) k = ((sB bs i)[24 * k + 4]'hkb).toNat := by rw [sBy, List.getD_eq_getElem?_getD, List.getElem?_eq_getElem hkb]; rfl
    have hbl8 := (sB bs i)[24 * k + 4]'hkb |>.toNat_lt
    have hlb : ∀ b : Bool, ((((sB bs i)[24 * k + 4]'hkb).toNat : Int).fdiv (2 ^ (min (Int.toNat 4) IntKind.u8.bits)) == 0) = b → (b = true ↔ sBy (sB bs i) k / 16 = 0) := fun b e => by
      rw [← e, beq_iff_eq, hby, show ((2 : Int) ^ (min (Int.toNat 4) IntKind.u8.bits)) = ((16 : Nat) : Int) from rfl, Int.fdiv_eq_ediv_of_nonneg _ (by omega)]
      omega
    refine br_intro (fun q1 => ?_) (fun q1 => ?_)
    · have q1 : (k : Int) > 0 := of_decide_eq_true q1
      refine br_intro (fun q2 => ?_) (fun q2 => ?_)
      · have q2 : (k : Int) < ((hF bs i 44 4 : Nat) : Int) := of_decide_eq_true q2
        refine br_intro (fun q3 => ?_) (fun q3 => ?_)
        · have q3 := (not_congr (hlb _ (nb q3))).1 (by simp)
          refine And.intro (bno (fun hp => ?_)) rfl
          exact (hp.2.2.2.2.2 k (by omega)).1 ⟨by omega, by omega, q3⟩
        · have q3 := (hlb _ (nb' q3)).1 rfl
          refine br_intro (fun q4 => ?_) (fun q4 => ?_)
          · have q4 : (k : Int) ≥ ((hF bs i 44 4 : Nat) : Int) := of_decide_eq_true q4
            omega
          have hok : ¬ (0 < k ∧ k < hF bs i 44 4 ∧ sBy (sB bs i) k / 16 ≠ 0) ∧ ¬ (hF bs i 44 4 ≤ k ∧ sBy (sB bs i) k / 16 = 0) := ⟨fun hh => hh.2.2 q3, fun hh => by have := hh.1; omega⟩
          have hNk := num_g hxB hbb (a := 24 * k) (n := 4) (by omega) (by omega)
          rw [← e24] at hNk
          refine CallS.pure hNk rfl ?_
          refine CallS.pure (hTx (gN (sB bs i) (24 * k) 4) (by have := g4_lt (sB bs i) (24 * k); omega)) rfl ?_
          refine br_intro (fun r1 => ?_) (fun r1 => ?_)
          · have r1 := of_decide_eq_false (nb r1)
            refine And.intro (bno (fun hp => ?_)) rfl
            have := (hp.2.2.2.2.2 k (by omega)).2.2
            rw [hnm] at this
            exact r1 this
          have r1 := of_decide_eq_true (nb' r1)
          refine ⟨⟨k + 1, by omega, fun j hj => ?_⟩, weak_of ⟨rfl, rfl, rfl, rfl, rfl, congrArg (fun x => AV.t (.int .u64 x)) (u64_nat (n := k + 1) (by omega)), trivial⟩ rfl, by show hF bs i 32 8 / 24 - (k + 1) < hF bs i 32 8 / 24 - k; omega⟩
          by_cases ej : j = k
          · rw [ej]
            exact ⟨hok.1, hok.2, by rw [hnm]; exact r1⟩
          · exact k2 j (by omega)
      · have q2 : ¬ (k : Int) < ((hF bs i 44 4 : Nat) : Int) := of_decide_eq_false q2
        refine br_intro (fun q4 => ?_) (fun q4 => ?_)
        rotate_left
        · have q4 : ¬ (k : Int) ≥ ((hF bs i 44 4 : Nat) : Int) := of_decide_eq_false q4
          omega
        refine br_intro (fun q5 => ?_) (fun q5 => ?_)
        · have q5 := (hlb _ q5).1 rfl
          refine And.intro (bno (fun hp => ?_)) rfl
          exact (hp.2.2.2.2.2 k (by omega)).2.1 ⟨by omega, q5⟩
        · have q5 := (not_congr (hlb _ q5)).1 (by simp)
          have hok : ¬ (0 < k ∧ k < hF bs i 44 4 ∧ sBy (sB bs i) k / 16 ≠ 0) ∧ ¬ (hF bs i 44 4 ≤ k ∧ sBy (sB bs i) k / 16 = 0) := ⟨fun hh => by have := hh.2.1; omega, fun hh => q5 hh.2⟩
          have hNk := num_g hxB hbb (a := 24 * k) (n := 4) (by omega) (by omega)
          rw [← e24] at hNk
          refine CallS.pure hNk rfl ?_
          refine CallS.pure (hTx (gN (sB bs i) (24 * k) 4) (by have := g4_lt (sB bs i) (24 * k); omega)) rfl ?_
          refine br_intro (fun r1 => ?_) (fun r1 => ?_)
          · have r1 := of_decide_eq_false (nb r1)
            refine And.intro (bno (fun hp => ?_)) rfl
            have := (hp.2.2.2.2.2 k (by omega)).2.2
            rw [hnm] at this
            exact r1 this
          have r1 := of_decide_eq_true (nb' r1)
          refine ⟨⟨k + 1, by omega, fun j hj => ?_⟩, weak_of ⟨rfl, rfl, rfl, rfl, rfl, congrArg (fun x => AV.t (.int .u64 x)) (u64_nat (n := k + 1) (by omega)), trivial⟩ rfl, by show hF bs i 32 8 / 24 - (k + 1) < hF bs i 32 8 / 24 - k; omega⟩
          by_cases ej : j = k
          · rw [ej]
            exact ⟨hok.1, hok.2, by rw [hnm]; exact r1⟩
          · exact k2 j (by omega)
    · have q1 : ¬ (k : Int) > 0 := of_decide_eq_false q1
      refine br_intro (fun q4 => ?_) (fun q4 => ?_)
      · have q4 : (k : Int) ≥ ((hF bs i 44 4 : Nat) : Int) := of_decide_eq_true q4
        refine br_intro (fun q5 => ?_) (fun q5 => ?_)
        · have q5 := (hlb _ q5).1 rfl
          refine And.intro (bno (fun hp => ?_)) rfl
          exact (hp.2.2.2.2.2 k (by omega)).2.1 ⟨by omega, q5⟩
        · have q5 := (not_congr (hlb _ q5)).1 (by simp)
          have hok : ¬ (0 < k ∧ k < hF bs i 44 4 ∧ sBy (sB bs i) k / 16 ≠ 0) ∧ ¬ (hF bs i 44 4 ≤ k ∧ sBy (sB bs i) k / 16 = 0) := ⟨fun hh => by have := hh.1; omega, fun hh => q5 hh.2⟩
          have hNk := num_g hxB hbb (a := 24 * k) (n := 4) (by omega) (by omega)
          rw [← e24] at hNk
          refine CallS.pure hNk rfl ?_
          refine CallS.pure (hTx (gN (sB bs i) (24 * k) 4) (by have := g4_lt (sB bs i) (24 * k); omega)) rfl ?_
          refine br_intro (fun r1 => ?_) (fun r1 => ?_)
          · have r1 := of_decide_eq_false (nb r1)
            refine And.intro (bno (fun hp => ?_)) rfl
            have := (hp.2.2.2.2.2 k (by omega)).2.2
            rw [hnm] at this
            exact r1 this
          have r1 := of_decide_eq_true (nb' r1)
          refine ⟨⟨k + 1, by omega, fun j hj => ?_⟩, weak_of ⟨rfl, rfl, rfl, rfl, rfl, congrArg (fun x => AV.t (.int .u64 x)) (u64_nat (n := k + 1) (by omega)), trivial⟩ rfl, by show hF bs i 32 8 / 24 - (k + 1) < hF bs i 32 8 / 24 - k; omega⟩
          by_cases ej : j = k
          · rw [ej]
            exact ⟨hok.1, hok.2, by rw [hnm]; exact r1⟩
          · exact k2 j (by omega)
      · have q4 : ¬ (k : Int) ≥ ((hF bs i 44 4 : Nat) : Int) := of_decide_eq_false q4
        have hok : ¬ (0 < k ∧ k < hF bs i 44 4 ∧ sBy (sB bs i) k / 16 ≠ 0) ∧ ¬ (hF bs i 44 4 ≤ k ∧ sBy (sB bs i) k / 16 = 0) := ⟨fun hh => by have := hh.1; omega, fun hh => by have := hh.1; omega⟩
        have hNk := num_g hxB hbb (a := 24 * k) (n := 4) (by omega) (by omega)
        rw [← e24] at hNk
        refine CallS.pure hNk rfl ?_
        refine CallS.pure (hTx (gN (sB bs i) (24 * k) 4) (by have := g4_lt (sB bs i) (24 * k); omega)) rfl ?_
        refine br_intro (fun r1 => ?_) (fun r1 => ?_)
        · have r1 := of_decide_eq_false (nb r1)
          refine And.intro (bno (fun hp => ?_)) rfl
          have := (hp.2.2.2.2.2 k (by omega)).2.2
          rw [hnm] at this
          exact r1 this
        have r1 := of_decide_eq_true (nb' r1)
        refine ⟨⟨k + 1, by omega, fun j hj => ?_⟩, weak_of ⟨rfl, rfl, rfl, rfl, rfl, congrArg (fun x => AV.t (.int .u64 x)) (u64_nat (n := k + 1) (by omega)), trivial⟩ rfl, by show hF bs i 32 8 / 24 - (k + 1) < hF bs i 32 8 / 24 - k; omega⟩
        by_cases ej : j = k
        · rw [ej]
          exact ⟨hok.1, hok.2, by rw [hnm]; exact r1⟩
        · exact k2 j (by omega)
  | nil =>
    have hTx : ∀ a : Nat, a < 18446744073709551616 → Runs Tryd.prog 66 [.nils, .int .u64 (a : Int)] (.t (.bool (decide (tx [] a)))) := fun a ha => text_g .nil (by simp) ha
    refine CallS.pure hL rfl ?_
    refine And.intro (fun j hj => by cases hj) ?_
    refine And.intro (fun j hj => by cases hj) ?_
    refine And.intro (fun j hj => by cases hj) ?_
    refine loop_on (fun k : Nat => k ≤ hF bs i 32 8 / 24 ∧ ∀ j, j < k → syOK bs i j) (fun k => ⟨[(5, .ptr 0 0 0 0), (7, .t (.int .u64 (IntKind.u64.wrap (((hF bs i 32 8 : Nat) : Int).tdiv 24)))), (8, .t (.vec 1 (U (sB bs i)))), (9, .sl 1 0 0 0), (52, .t (.int .u64 (IntKind.u64.wrap (((hF bs i 32 8 : Nat) : Int).tdiv 24)))), (53, .t (.int .u64 (k : Int)))], [.box (secC bs i), .arr 5 1 true 0 (.ts [])]⟩)
      (fun k => hF bs i 32 8 / 24 - k) 0 ⟨Nat.zero_le _, fun j hj => by omega⟩ (weak_of ⟨rfl, rfl, rfl, rfl, rfl, rfl, trivial⟩ rfl) (fun k hk => ?_)
    obtain ⟨k1, k2⟩ := hk
    refine br_intro (fun h => ?_) (fun h => ?_)
    rotate_left
    · have h : ¬ (k : Int) < IntKind.u64.wrap (((hF bs i 32 8 : Nat) : Int).tdiv 24) := of_decide_eq_false h
      rw [hdv] at h
      obtain rfl : k = hF bs i 32 8 / 24 := by omega
      exact And.intro (byes (hall.1 k2)) rfl
    have h : (k : Int) < IntKind.u64.wrap (((hF bs i 32 8 : Nat) : Int).tdiv 24) := of_decide_eq_true h
    rw [hdv] at h
    have hlt : 24 * k + 24 ≤ hF bs i 32 8 := by omega
    have e24 : IntKind.u64.wrap (24 * (k : Int)) = ((24 * k : Nat) : Int) := by rw [show 24 * (k : Int) = ((24 * k : Nat) : Int) by omega]; exact u64_nat (by omega)
    have e28 : IntKind.u64.wrap (IntKind.u64.wrap (24 * (k : Int)) + 4) = ((24 * k + 4 : Nat) : Int) := by rw [e24, show ((24 * k : Nat) : Int) + 4 = ((24 * k + 4 : Nat) : Int) by omega]; exact u64_nat (by omega)
    have hkb : 24 * k + 4 < (sB bs i).length := by omega
    refine opt_intro (show (U (sB bs i))[(IntKind.u64.wrap (IntKind.u64.wrap (24 * (k : Int)) + 4)).toNat]? = some _ by rw [e28, Int.toNat_natCast]; exact U_get _ _ hkb) ?_
    have hby : sBy (sB bs i) k = ((sB bs i)[24 * k + 4]'hkb).toNat := by rw [sBy, List.getD_eq_getElem?_getD, List.getElem?_eq_getElem hkb]; rfl
    have hbl8 := (sB bs i)[24 * k + 4]'hkb |>.toNat_lt
    have hlb : ∀ b : Bool, ((((sB bs i)[24 * k + 4]'hkb).toNat : Int).fdiv (2 ^ (min (Int.toNat 4) IntKind.u8.bits)) == 0) = b → (b = true ↔ sBy (sB bs i) k / 16 = 0) := fun b e => by
      rw [← e, beq_iff_eq, hby, show ((2 : Int) ^ (min (Int.toNat 4) IntKind.u8.bits)) = ((16 : Nat) : Int) from rfl, Int.fdiv_eq_ediv_of_nonneg _ (by omega)]
      omega
    refine br_intro (fun q1 => ?_) (fun q1 => ?_)
    · have q1 : (k : Int) > 0 := of_decide_eq_true q1
      refine br_intro (fun q2 => ?_) (fun q2 => ?_)
      · have q2 : (k : Int) < ((hF bs i 44 4 : Nat) : Int) := of_decide_eq_true q2
        refine br_intro (fun q3 => ?_) (fun q3 => ?_)
        · have q3 := (not_congr (hlb _ (nb q3))).1 (by simp)
          refine And.intro (bno (fun hp => ?_)) rfl
          exact (hp.2.2.2.2.2 k (by omega)).1 ⟨by omega, by omega, q3⟩
        · have q3 := (hlb _ (nb' q3)).1 rfl
          refine br_intro (fun q4 => ?_) (fun q4 => ?_)
          · have q4 : (k : Int) ≥ ((hF bs i 44 4 : Nat) : Int) := of_decide_eq_true q4
            omega
          have hok : ¬ (0 < k ∧ k < hF bs i 44 4 ∧ sBy (sB bs i) k / 16 ≠ 0) ∧ ¬ (hF bs i 44 4 ≤ k ∧ sBy (sB bs i) k / 16 = 0) := ⟨fun hh => hh.2.2 q3, fun hh => by have := hh.1; omega⟩
          have hNk := num_g hxB hbb (a := 24 * k) (n := 4) (by omega) (by omega)
          rw [← e24] at hNk
          refine CallS.pure hNk rfl ?_
          refine CallS.snap (hTx (gN (sB bs i) (24 * k) 4) (by have := g4_lt (sB bs i) (24 * k); omega)) rfl (show flatT (.bool _) = true from rfl) ?_
          refine br_intro (fun r1 => ?_) (fun r1 => ?_)
          · have r1 := of_decide_eq_false (nb r1)
            refine And.intro (bno (fun hp => ?_)) rfl
            have := (hp.2.2.2.2.2 k (by omega)).2.2
            rw [hnm] at this
            exact r1 this
          have r1 := of_decide_eq_true (nb' r1)
          refine ⟨⟨k + 1, by omega, fun j hj => ?_⟩, weak_of ⟨rfl, rfl, rfl, rfl, rfl, congrArg (fun x => AV.t (.int .u64 x)) (u64_nat (n := k + 1) (by omega)), trivial⟩ rfl, by show hF bs i 32 8 / 24 - (k + 1) < hF bs i 32 8 / 24 - k; omega⟩
          by_cases ej : j = k
          · rw [ej]
            exact ⟨hok.1, hok.2, by rw [hnm]; exact r1⟩
          · exact k2 j (by omega)
      · have q2 : ¬ (k : Int) < ((hF bs i 44 4 : Nat) : Int) := of_decide_eq_false q2
        refine br_intro (fun q4 => ?_) (fun q4 => ?_)
        rotate_left
        · have q4 : ¬ (k : Int) ≥ ((hF bs i 44 4 : Nat) : Int) := of_decide_eq_false q4
          omega
        refine br_intro (fun q5 => ?_) (fun q5 => ?_)
        · have q5 := (hlb _ q5).1 rfl
          refine And.intro (bno (fun hp => ?_)) rfl
          exact (hp.2.2.2.2.2 k (by omega)).2.1 ⟨by omega, q5⟩
        · have q5 := (not_congr (hlb _ q5)).1 (by simp)
          have hok : ¬ (0 < k ∧ k < hF bs i 44 4 ∧ sBy (sB bs i) k / 16 ≠ 0) ∧ ¬ (hF bs i 44 4 ≤ k ∧ sBy (sB bs i) k / 16 = 0) := ⟨fun hh => by have := hh.2.1; omega, fun hh => q5 hh.2⟩
          have hNk := num_g hxB hbb (a := 24 * k) (n := 4) (by omega) (by omega)
          rw [← e24] at hNk
          refine CallS.pure hNk rfl ?_
          refine CallS.snap (hTx (gN (sB bs i) (24 * k) 4) (by have := g4_lt (sB bs i) (24 * k); omega)) rfl (show flatT (.bool _) = true from rfl) ?_
          refine br_intro (fun r1 => ?_) (fun r1 => ?_)
          · have r1 := of_decide_eq_false (nb r1)
            refine And.intro (bno (fun hp => ?_)) rfl
            have := (hp.2.2.2.2.2 k (by omega)).2.2
            rw [hnm] at this
            exact r1 this
          have r1 := of_decide_eq_true (nb' r1)
          refine ⟨⟨k + 1, by omega, fun j hj => ?_⟩, weak_of ⟨rfl, rfl, rfl, rfl, rfl, congrArg (fun x => AV.t (.int .u64 x)) (u64_nat (n := k + 1) (by omega)), trivial⟩ rfl, by show hF bs i 32 8 / 24 - (k + 1) < hF bs i 32 8 / 24 - k; omega⟩
          by_cases ej : j = k
          · rw [ej]
            exact ⟨hok.1, hok.2, by rw [hnm]; exact r1⟩
          · exact k2 j (by omega)
    · have q1 : ¬ (k : Int) > 0 := of_decide_eq_false q1
      refine br_intro (fun q4 => ?_) (fun q4 => ?_)
      · have q4 : (k : Int) ≥ ((hF bs i 44 4 : Nat) : Int) := of_decide_eq_true q4
        refine br_intro (fun q5 => ?_) (fun q5 => ?_)
        · have q5 := (hlb _ q5).1 rfl
          refine And.intro (bno (fun hp => ?_)) rfl
          exact (hp.2.2.2.2.2 k (by omega)).2.1 ⟨by omega, q5⟩
        · have q5 := (not_congr (hlb _ q5)).1 (by simp)
          have hok : ¬ (0 < k ∧ k < hF bs i 44 4 ∧ sBy (sB bs i) k / 16 ≠ 0) ∧ ¬ (hF bs i 44 4 ≤ k ∧ sBy (sB bs i) k / 16 = 0) := ⟨fun hh => by have := hh.1; omega, fun hh => q5 hh.2⟩
          have hNk := num_g hxB hbb (a := 24 * k) (n := 4) (by omega) (by omega)
          rw [← e24] at hNk
          refine CallS.pure hNk rfl ?_
          refine CallS.snap (hTx (gN (sB bs i) (24 * k) 4) (by have := g4_lt (sB bs i) (24 * k); omega)) rfl (show flatT (.bool _) = true from rfl) ?_
          refine br_intro (fun r1 => ?_) (fun r1 => ?_)
          · have r1 := of_decide_eq_false (nb r1)
            refine And.intro (bno (fun hp => ?_)) rfl
            have := (hp.2.2.2.2.2 k (by omega)).2.2
            rw [hnm] at this
            exact r1 this
          have r1 := of_decide_eq_true (nb' r1)
          refine ⟨⟨k + 1, by omega, fun j hj => ?_⟩, weak_of ⟨rfl, rfl, rfl, rfl, rfl, congrArg (fun x => AV.t (.int .u64 x)) (u64_nat (n := k + 1) (by omega)), trivial⟩ rfl, by show hF bs i 32 8 / 24 - (k + 1) < hF bs i 32 8 / 24 - k; omega⟩
          by_cases ej : j = k
          · rw [ej]
            exact ⟨hok.1, hok.2, by rw [hnm]; exact r1⟩
          · exact k2 j (by omega)
      · have q4 : ¬ (k : Int) ≥ ((hF bs i 44 4 : Nat) : Int) := of_decide_eq_false q4
        have hok : ¬ (0 < k ∧ k < hF bs i 44 4 ∧ sBy (sB bs i) k / 16 ≠ 0) ∧ ¬ (hF bs i 44 4 ≤ k ∧ sBy (sB bs i) k / 16 = 0) := ⟨fun hh => by have := hh.1; omega, fun hh => by have := hh.1; omega⟩
        have hNk := num_g hxB hbb (a := 24 * k) (n := 4) (by omega) (by omega)
        rw [← e24] at hNk
        refine CallS.pure hNk rfl ?_
        refine CallS.snap (hTx (gN (sB bs i) (24 * k) 4) (by have := g4_lt (sB bs i) (24 * k); omega)) rfl (show flatT (.bool _) = true from rfl) ?_
        refine br_intro (fun r1 => ?_) (fun r1 => ?_)
        · have r1 := of_decide_eq_false (nb r1)
          refine And.intro (bno (fun hp => ?_)) rfl
          have := (hp.2.2.2.2.2 k (by omega)).2.2
          rw [hnm] at this
          exact r1 this
        have r1 := of_decide_eq_true (nb' r1)
        refine ⟨⟨k + 1, by omega, fun j hj => ?_⟩, weak_of ⟨rfl, rfl, rfl, rfl, rfl, congrArg (fun x => AV.t (.int .u64 x)) (u64_nat (n := k + 1) (by omega)), trivial⟩ rfl, by show hF bs i 32 8 / 24 - (k + 1) < hF bs i 32 8 / 24 - k; omega⟩
        by_cases ej : j = k
        · rw [ej]
          exact ⟨hok.1, hok.2, by rw [hnm]; exact r1⟩
        · exact k2 j (by omega)

end Go.Proofs.YthpkehhghcpolaaDoor
