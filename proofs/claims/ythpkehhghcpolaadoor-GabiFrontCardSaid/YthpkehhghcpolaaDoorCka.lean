/-
  Relocation tables of a file: the two programs' functions.
-/
import Derived.Test.YthpkehhghcpolaaDoorCk9
namespace Go.Proofs.YthpkehhghcpolaaDoor
open Go.IntWalk
set_option maxRecDepth 100000
set_option linter.unusedVariables false
set_option linter.unusedSimpArgs false

def ordRel : Ord := (.op 0 [] (.op 1 [0] (.op 3 [1, 0] (.op 4 [3, 1, 0] (.op 5 [3, 1, 0] (.op 6 [1, 0] (.op 7 [1, 0] (.op 8 [1, 0] (.op 2 [8, 7, 6, 5, 4, 3] (.op 9 [] (.op 10 [] (.op 11 [] (.op 12 [11] (.op 13 [11] (.op 15 [13, 12, 11] (.op 16 [15, 13, 12, 11] (.op 17 [15, 13, 12, 11] (.op 18 [13, 12, 11] (.op 19 [13, 12, 11] (.op 20 [13, 12, 11] (.op 21 [13, 12, 11] (.op 14 [21, 20, 19, 18, 17, 16, 15] (.op 22 [] (.op 23 [] .nil))))))))))))))))))))))))

/-- Is a relocation right? -/
def reOK (bs : List UInt8) (i k : Nat) : Prop :=
  gN (sB bs i) (24 * k) 8 ≤ hF bs (hF bs i 44 4) 32 8 ∧ gN (sB bs i) (24 * k + 12) 4 < hF bs (hF bs i 40 4) 32 8 / 24

/-- Is a relocation table right? -/
def reP (bs : List UInt8) (i : Nat) : Prop :=
  hF bs i 56 8 = 24 ∧ hF bs i 32 8 % 24 = 0 ∧ hF bs i 40 4 < gN bs 60 2 ∧ hF bs (hF bs i 40 4) 4 4 = 2 ∧ hF bs i 44 4 < gN bs 60 2 ∧ ∀ k, k < hF bs i 32 8 / 24 → reOK bs i k
noncomputable instance (bs i) : Decidable (reP bs i) := Classical.propDecidable _

set_option maxHeartbeats 4000000 in
theorem relocs_g (bs : List UInt8) (hb : bs.length ≤ 211106232532992) (i : Nat) (hw : hF bs i 24 8 + hF bs i 32 8 ≤ bs.length) :
    Runs Tryd.prog 68 [.vec 1 (U bs), .vec 8 (secL bs (gN bs 60 2)), secT bs i] (.t (.bool (decide (reP bs i)))) := by
  have hcnt := g2_lt bs 60
  have l32 := hF_lt8 bs i 32
  have l40 := hF_lt4 bs i 40
  have l44 := hF_lt4 bs i 44
  have hbl := sB_len hw
  have hB := bytes_g bs hb i
  have hsT : sT bs i = .vec 1 (U (sB bs i)) := by rw [sT, sB, if_pos hw, if_pos hw]
  rw [hsT] at hB
  have hxB : BX (.vec 1 (U (sB bs i))) (sB bs i) := .vec _ _ rfl
  have hbb : (sB bs i).length ≤ 211106232532992 := by have := sB_le bs i; omega
  have hsl : IntKind.u64.wrap ((secL bs (gN bs 60 2)).length : Int) = ((gN bs 60 2 : Nat) : Int) := by rw [secL_len]; exact u64_nat (by omega)
  refine Runs.of_call ?_ rfl
  refine CallS.of_fn tab_ok reg_ok Tryd.func68 rfl rfl ?_
  refine br_intro (fun c1 => ?_) (fun c1 => ?_)
  · have c1 : ((hF bs i 56 8 : Nat) : Int) ≠ 24 := neT c1
    exact And.intro (bno (fun hp => by have := hp.1; omega)) rfl
  have c1 : ((hF bs i 56 8 : Nat) : Int) = 24 := neB c1
  refine br_intro (fun c2 => ?_) (fun c2 => ?_)
  · have c2 : ((hF bs i 32 8 : Nat) : Int).tmod 24 ≠ 0 := neT c2
    rw [show ((hF bs i 32 8 : Nat) : Int).tmod 24 = ((hF bs i 32 8 % 24 : Nat) : Int) from tmodN _ 24] at c2
    exact And.intro (bno (fun hp => by have := hp.2.1; omega)) rfl
  have c2 : ((hF bs i 32 8 : Nat) : Int).tmod 24 = 0 := neB c2
  rw [show ((hF bs i 32 8 : Nat) : Int).tmod 24 = ((hF bs i 32 8 % 24 : Nat) : Int) from tmodN _ 24] at c2
  refine br_intro (fun c4 => ?_) (fun c4 => ?_)
  · have c4 : ((hF bs i 40 4 : Nat) : Int) ≥ IntKind.u64.wrap ((secL bs (gN bs 60 2)).length : Int) := of_decide_eq_true c4
    rw [hsl] at c4
    exact And.intro (bno (fun hp => by have := hp.2.2.1; omega)) rfl
  have c4 : ¬ ((hF bs i 40 4 : Nat) : Int) ≥ IntKind.u64.wrap ((secL bs (gN bs 60 2)).length : Int) := of_decide_eq_false c4
  rw [hsl] at c4
  refine opt_intro (secL_get (show (((hF bs i 40 4 : Nat) : Int)).toNat < gN bs 60 2 by rw [Int.toNat_natCast]; omega)) ?_
  refine br_intro (fun c3 => ?_) (fun c3 => ?_)
  · have c3 : ((hF bs (hF bs i 40 4) 4 4 : Nat) : Int) ≠ 2 := neT c3
    exact And.intro (bno (fun hp => by have := hp.2.2.2.1; omega)) rfl
  have c3 : ((hF bs (hF bs i 40 4) 4 4 : Nat) : Int) = 2 := neB c3
  refine br_intro (fun c5 => ?_) (fun c5 => ?_)
  · have c5 : ((hF bs i 44 4 : Nat) : Int) ≥ IntKind.u64.wrap ((secL bs (gN bs 60 2)).length : Int) := of_decide_eq_true c5
    rw [hsl] at c5
    exact And.intro (bno (fun hp => by have := hp.2.2.2.2.1; omega)) rfl
  have c5 : ¬ ((hF bs i 44 4 : Nat) : Int) ≥ IntKind.u64.wrap ((secL bs (gN bs 60 2)).length : Int) := of_decide_eq_false c5
  rw [hsl] at c5
  have hall : (∀ k, k < hF bs i 32 8 / 24 → reOK bs i k) ↔ reP bs i :=
    ⟨fun h => ⟨by omega, by omega, by omega, by omega, by omega, h⟩, fun h => h.2.2.2.2.2⟩
  refine CallS.frz hB rfl ?_
  refine loop_on (fun k : Nat => k ≤ hF bs i 32 8 / 24 ∧ ∀ j, j < k → reOK bs i j) (fun k => ⟨[(1, .t (.vec 8 (secL bs (gN bs 60 2)))), (5, .ptr 0 0 0 0), (8, .t (.vec 1 (U (sB bs i)))), (9, .t (.int .u64 ((24 * k : Nat) : Int)))], [.box (secC bs i)]⟩)
    (fun k => hF bs i 32 8 / 24 - k) 0 ⟨Nat.zero_le _, fun j hj => by omega⟩ (weak_of ⟨rfl, rfl, rfl, rfl, trivial⟩ rfl) (fun k hk => ?_)
  obtain ⟨k1, k2⟩ := hk
  have hlen : IntKind.u64.wrap ((U (sB bs i)).length : Int) = ((hF bs i 32 8 : Nat) : Int) := by rw [U_len, hbl]; exact u64_nat l32
  refine br_intro (fun h => ?_) (fun h => ?_)
  rotate_left
  · have h : ¬ ((24 * k : Nat) : Int) < IntKind.u64.wrap ((U (sB bs i)).length : Int) := of_decide_eq_false h
    rw [hlen] at h
    obtain rfl : k = hF bs i 32 8 / 24 := by omega
    exact And.intro (byes (hall.1 k2)) rfl
  have h : ((24 * k : Nat) : Int) < IntKind.u64.wrap ((U (sB bs i)).length : Int) := of_decide_eq_true h
  rw [hlen] at h
  have e12 : IntKind.u64.wrap (((24 * k : Nat) : Int) + 12) = ((24 * k + 12 : Nat) : Int) := by rw [show ((24 * k : Nat) : Int) + 12 = ((24 * k + 12 : Nat) : Int) by omega]; exact u64_nat (by omega)
  have e24 : IntKind.u64.wrap (((24 * k : Nat) : Int) + 24) = ((24 * (k + 1) : Nat) : Int) := by rw [show ((24 * k : Nat) : Int) + 24 = ((24 * (k + 1) : Nat) : Int) by omega]; exact u64_nat (by omega)
  have hN0 := num_g hxB hbb (a := 24 * k) (n := 8) (by omega) (by omega)
  have hN1 := num_g hxB hbb (a := 24 * k + 12) (n := 4) (by omega) (by omega)
  rw [← e12] at hN1
  have hdv : IntKind.u64.wrap (((hF bs (hF bs i 40 4) 32 8 : Nat) : Int).tdiv 24) = ((hF bs (hF bs i 40 4) 32 8 / 24 : Nat) : Int) := tdivN _ 24 (hF_lt8 _ _ _)
  refine draw_intro ordRel (by decide +kernel) ?_
  refine opt_intro (secL_get (show (((hF bs i 44 4 : Nat) : Int)).toNat < gN bs 60 2 by rw [Int.toNat_natCast]; omega)) ?_
  refine CallS.pure hN0 rfl ?_
  refine And.intro (fun j _ => LeX.append _ _ _) ?_
  refine br_intro (fun q1 => ?_) (fun q1 => ?_)
  · have q1 : ((gN (sB bs i) (24 * k) 8 : Nat) : Int) > ((hF bs (hF bs i 44 4) 32 8 : Nat) : Int) := of_decide_eq_true q1
    refine And.intro (fun j _ => LeX.refl _ _) ?_
    exact And.intro (bno (fun hp => by have := (hp.2.2.2.2.2 k (by omega)).1; omega)) rfl
  have q1 : ¬ ((gN (sB bs i) (24 * k) 8 : Nat) : Int) > ((hF bs (hF bs i 44 4) 32 8 : Nat) : Int) := of_decide_eq_false q1
  refine opt_intro (secL_get (show (((hF bs i 40 4 : Nat) : Int)).toNat < gN bs 60 2 by rw [Int.toNat_natCast]; omega)) ?_
  refine CallS.pure hN1 rfl ?_
  refine And.intro (fun j _ => LeX.append _ _ _) ?_
  refine br_intro (fun q2 => ?_) (fun q2 => ?_)
  · have q2 : ((gN (sB bs i) (24 * k + 12) 4 : Nat) : Int) ≥ IntKind.u64.wrap (((hF bs (hF bs i 40 4) 32 8 : Nat) : Int).tdiv 24) := of_decide_eq_true q2
    rw [hdv] at q2
    exact And.intro (bno (fun hp => by have := (hp.2.2.2.2.2 k (by omega)).2; omega)) rfl
  have q2 : ¬ ((gN (sB bs i) (24 * k + 12) 4 : Nat) : Int) ≥ IntKind.u64.wrap (((hF bs (hF bs i 40 4) 32 8 : Nat) : Int).tdiv 24) := of_decide_eq_false q2
  rw [hdv] at q2
  refine ⟨⟨k + 1, by omega, fun j hj => ?_⟩, weak_of ⟨rfl, rfl, rfl, congrArg (fun x => AV.t (.int .u64 x)) e24, trivial⟩ rfl, by show hF bs i 32 8 / 24 - (k + 1) < hF bs i 32 8 / 24 - k; omega⟩
  by_cases ej : j = k
  · rw [ej]
    exact ⟨by omega, by omega⟩
  · exact k2 j (by omega)

end Go.Proofs.YthpkehhghcpolaaDoor
