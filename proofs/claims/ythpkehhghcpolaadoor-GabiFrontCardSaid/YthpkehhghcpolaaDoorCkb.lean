/-
  The sections of a file: the program's function.
-/
import Derived.Test.YthpkehhghcpolaaDoorCka
namespace Go.Proofs.YthpkehhghcpolaaDoor
open Go.IntWalk
set_option maxRecDepth 100000
set_option linter.unusedVariables false
set_option linter.unusedSimpArgs false

/-- Is a section right? -/
def seOK (bs : List UInt8) (i : Nat) : Prop :=
  pw (hF bs i 48 8) ∧ ¬ (hF bs i 4 4 ≠ 0 ∧ hF bs i 4 4 ≠ 8 ∧ ¬ hF bs i 24 8 + hF bs i 32 8 ≤ bs.length) ∧ tx (sB bs (gN bs 62 2)) (hF bs i 0 4) ∧ (hF bs i 4 4 = 2 → syP bs i) ∧ (hF bs i 4 4 = 4 → reP bs i)

/-- Are the sections right? -/
def seP (bs : List UInt8) : Prop := ∀ i, 1 ≤ i → i < gN bs 60 2 → seOK bs i
noncomputable instance (bs) : Decidable (seP bs) := Classical.propDecidable _

theorem args_sec (bs : List UInt8) (n i : Nat) (a : T) (H : AH) (hn : n ≠ 0) :
    argsT (.arr 110 8 true 0 (.ts (secL bs n)) :: H) [.t a, .sl 0 0 0 (secL bs n).length, .agg (secC bs i)] = some [a, .vec 8 (secL bs n), secT bs i] := by
  have hb : Nat.beq (secL bs n).length 0 = false := by
    rw [secL_len]
    cases n with
    | zero => exact absurd rfl hn
    | succ n => rfl
  have s1 : snapF 30 (.arr 110 8 true 0 (.ts (secL bs n)) :: H) (.sl 0 0 0 (secL bs n).length) = some (.vec 8 (secL bs n), [0]) := by
    show snapF (29 + 1) _ _ = _
    unfold snapF
    simp only [List.getElem?_cons_zero, Sq.length, hb, Bool.and_false, Sq.part, List.drop_zero, List.take_length]
  have s2 : snapL 29 (.arr 110 8 true 0 (.ts (secL bs n)) :: H) [.agg (secC bs i)] = some ([secT bs i], []) := rfl
  have e : snapL 32 (.arr 110 8 true 0 (.ts (secL bs n)) :: H) [.t a, .sl 0 0 0 (secL bs n).length, .agg (secC bs i)] = some ([a, .vec 8 (secL bs n), secT bs i], [0]) := by
    show (match (some (a, []) : Option (T × List Nat)), (match snapF 30 _ _, snapL 30 _ _ with | some (x, i), some (l, j) => some (x :: l, i ++ j) | _, _ => none) with | some (x, i), some (l, j) => some (x :: l, i ++ j) | _, _ => none) = _
    rw [s1]
    rfl
  unfold argsT
  rw [e]
  rfl

set_option maxHeartbeats 4000000 in
theorem right_g (bs : List UInt8) (hb : bs.length ≤ 211106232532992) (ht : gN bs 60 2 = 0 ∨ gN bs 62 2 < gN bs 60 2) :
    Runs Tryd.prog 42 [.vec 1 (U bs)] (.t (.bool (decide (seP bs)))) := by
  have hx : BX (.vec 1 (U bs)) bs := .vec bs _ rfl
  have hcnt := g2_lt bs 60
  have hnl : (sB bs (gN bs 62 2)).length ≤ 211106232532992 := by have := sB_le bs (gN bs 62 2); omega
  have hL := bytes_g bs hb (gN bs 62 2)
  have hnB := sT_BX bs (gN bs 62 2)
  generalize hnt : sT bs (gN bs 62 2) = nt at hL hnB
  generalize hnm : sB bs (gN bs 62 2) = nm at hnl hnB
  refine Runs.of_call ?_ rfl
  refine CallS.of_fn tab_ok reg_ok Tryd.func42 rfl rfl ?_
  refine CallS.pure (sections_g bs hb) rfl ?_
  refine br_intro (fun c0 => ?_) (fun c0 => ?_)
  · have c0 : ((secL bs (gN bs 60 2)).length : Int) = 0 := eq_of_beq c0
    rw [secL_len] at c0
    exact And.intro (byes (fun i h1 h2 => by omega)) rfl
  have c0 : ((secL bs (gN bs 60 2)).length : Int) ≠ 0 := eqF c0
  rw [secL_len] at c0
  have hlt : gN bs 62 2 < gN bs 60 2 := by omega
  refine CallS.pure (num_g hx hb (a := 62) (n := 2) (by omega) (by omega)) rfl ?_
  refine ck_intro (show inB ((gN bs 62 2 : Nat) : Int) (secL bs (gN bs 60 2)).length = true by unfold inB; rw [secL_len]; simp; omega) ?_
  refine opt_intro (secL_get (show 0 + (((gN bs 62 2 : Nat) : Int)).toNat < gN bs 60 2 by rw [Int.toNat_natCast]; omega)) ?_
  have hgg : sT bs (0 + (((gN bs 62 2 : Nat) : Int)).toNat) = sT bs (gN bs 62 2) := by rw [Int.toNat_natCast, Nat.zero_add]
  have hL2 := bytes_g bs hb (0 + (((gN bs 62 2 : Nat) : Int)).toNat)
  rw [hgg, hnt] at hL2
  cases hnB with
  | vec nm L e =>
    subst e
    have hTx : ∀ a : Nat, a < 18446744073709551616 → Runs Tryd.prog 66 [.vec 1 (U nm), .int .u64 (a : Int)] (.t (.bool (decide (tx nm a)))) := fun a ha => text_g (.vec nm _ rfl) hnl ha
    refine CallS.pure hL2 rfl ?_
    refine ck_intro (by rw [secL_len]; simp; omega) ?_
    refine loop_on (fun j : Nat => j + 1 ≤ gN bs 60 2 ∧ ∀ i, 1 ≤ i → i < j + 1 → seOK bs i) (fun j => ⟨[(0, .t (.vec 1 (U bs))), (3, .sl 0 0 0 (secL bs (gN bs 60 2)).length), (4, .t (.vec 1 (U nm))), (20, .sl 0 0 1 ((secL bs (gN bs 60 2)).length - 1)), (21, .t (.int .i64 (((secL bs (gN bs 60 2)).length - 1 : Nat) : Int))), (22, .t (.int .i64 (j : Int)))], [.arr 110 8 true 0 (.ts (secL bs (gN bs 60 2)))]⟩)
      (fun j => gN bs 60 2 - j) 0 ⟨by omega, fun i h1 h2 => by omega⟩ (weak_of ⟨rfl, rfl, rfl, rfl, rfl, rfl, trivial⟩ rfl) (fun j hj => ?_)
    obtain ⟨k1, k2⟩ := hj
    refine br_intro (fun h => ?_) (fun h => ?_)
    rotate_left
    · have h : ¬ (j : Int) < (((secL bs (gN bs 60 2)).length - 1 : Nat) : Int) := of_decide_eq_false h
      rw [secL_len] at h
      exact And.intro (byes (fun i h1 h2 => k2 i h1 (by omega))) rfl
    have h : (j : Int) < (((secL bs (gN bs 60 2)).length - 1 : Nat) : Int) := of_decide_eq_true h
    rw [secL_len] at h
    refine ck_intro (show inB (j : Int) ((secL bs (gN bs 60 2)).length - 1) = true by unfold inB; rw [secL_len]; simp; omega) ?_
    refine opt_intro (secL_get (show 1 + ((j : Int)).toNat < gN bs 60 2 by rw [Int.toNat_natCast]; omega)) ?_
    generalize hi : 1 + ((j : Int)).toNat = i
    have hi : i = j + 1 := by rw [← hi, Int.toNat_natCast]; omega
    have l48 := hF_lt8 bs i 48
    have l24 := hF_lt8 bs i 24
    have l32 := hF_lt8 bs i 32
    have l0 := hF_lt4 bs i 0
    have nofail : ¬ seOK bs i → ¬ seP bs := fun hn hp => hn (hp i (by omega) (by omega))
    obtain ⟨pb, hPw, hpb⟩ := power_g (n := hF bs i 48 8) l48
    refine CallS.pure hPw rfl ?_
    refine br_intro (fun c1 => ?_) (fun c1 => ?_)
    · have c1 : pb = false := nb c1
      exact And.intro (bno (nofail (fun hp => by rw [hpb.2 hp.1] at c1; cases c1))) rfl
    have c1 : pw (hF bs i 48 8) := hpb.1 (nb' c1)
    refine br_intro (fun c2 => ?_) (fun c2 => ?_)
    · have c2 : ((hF bs i 4 4 : Nat) : Int) ≠ 0 := neT c2
      refine br_intro (fun c3 => ?_) (fun c3 => ?_)
      · have c3 : ((hF bs i 4 4 : Nat) : Int) ≠ 8 := neT c3
        refine CallS.pure (within_g hx hb l24 l32) rfl ?_
        refine br_intro (fun c4 => ?_) (fun c4 => ?_)
        · have c4 := of_decide_eq_false (nb c4)
          exact And.intro (bno (nofail (fun hp => hp.2.1 ⟨by omega, by omega, c4⟩))) rfl
        have c4 := of_decide_eq_true (nb' c4)
        have hA : ¬ (hF bs i 4 4 ≠ 0 ∧ hF bs i 4 4 ≠ 8 ∧ ¬ hF bs i 24 8 + hF bs i 32 8 ≤ bs.length) := fun hh => hh.2.2 c4
        refine CallS.pure (hTx (hF bs i 0 4) (by omega)) rfl ?_
        refine br_intro (fun r1 => ?_) (fun r1 => ?_)
        · have r1 := of_decide_eq_false (nb r1)
          exact And.intro (bno (nofail (fun hp => r1 (by have := hp.2.2.1; rw [hnm] at this; exact this)))) rfl
        have r1 := of_decide_eq_true (nb' r1)
        refine br_intro (fun d2 => ?_) (fun d2 => ?_)
        · have d2 : ((hF bs i 4 4 : Nat) : Int) = 2 := eq_of_beq d2
          have hw : hF bs i 24 8 + hF bs i 32 8 ≤ bs.length := by
            rcases Nat.lt_or_ge bs.length (hF bs i 24 8 + hF bs i 32 8) with q | q
            · exact (hA ⟨by omega, by omega, by omega⟩).elim
            · exact q
          refine CallS.snap (symbols_g bs hb i hw) (args_sec bs _ i _ _ (by omega)) (show flatT (.bool _) = true from rfl) ?_
          refine br_intro (fun s1 => ?_) (fun s1 => ?_)
          · have s1 := of_decide_eq_false (nb s1)
            exact And.intro (bno (nofail (fun hp => s1 (hp.2.2.2.1 (by omega))))) rfl
          have s1 := of_decide_eq_true (nb' s1)
          refine br_intro (fun d4 => ?_) (fun d4 => ?_)
          · have d4 : ((hF bs i 4 4 : Nat) : Int) = 4 := eq_of_beq d4
            omega
          have hok : seOK bs i := ⟨c1, hA, by rw [hnm]; exact r1, fun _ => s1, fun e => by omega⟩
          refine ⟨⟨j + 1, by omega, fun i' h1 h2 => ?_⟩, weak_gc [0] rfl ⟨rfl, rfl, rfl, rfl, rfl, congrArg (fun x => some (AV.t (.int .i64 x))) (i64_nat (n := j + 1) (by omega)), trivial⟩ ⟨rfl, trivial⟩, by show gN bs 60 2 - (j + 1) < gN bs 60 2 - j; omega⟩
          by_cases ej : i' = i
          · exact ej ▸ hok
          · exact k2 i' h1 (by omega)
        have d2 : ((hF bs i 4 4 : Nat) : Int) ≠ 2 := eqF d2
        refine br_intro (fun d4 => ?_) (fun d4 => ?_)
        · have d4 : ((hF bs i 4 4 : Nat) : Int) = 4 := eq_of_beq d4
          have hw : hF bs i 24 8 + hF bs i 32 8 ≤ bs.length := by
            rcases Nat.lt_or_ge bs.length (hF bs i 24 8 + hF bs i 32 8) with q | q
            · exact (hA ⟨by omega, by omega, by omega⟩).elim
            · exact q
          refine CallS.snap (relocs_g bs hb i hw) (args_sec bs _ i _ _ (by omega)) (show flatT (.bool _) = true from rfl) ?_
          refine br_intro (fun s1 => ?_) (fun s1 => ?_)
          · have s1 := of_decide_eq_false (nb s1)
            exact And.intro (bno (nofail (fun hp => s1 (hp.2.2.2.2 (by omega))))) rfl
          have s1 := of_decide_eq_true (nb' s1)
          have hok : seOK bs i := ⟨c1, hA, by rw [hnm]; exact r1, fun e => by omega, fun _ => s1⟩
          refine ⟨⟨j + 1, by omega, fun i' h1 h2 => ?_⟩, weak_gc [0] rfl ⟨rfl, rfl, rfl, rfl, rfl, congrArg (fun x => some (AV.t (.int .i64 x))) (i64_nat (n := j + 1) (by omega)), trivial⟩ ⟨rfl, trivial⟩, by show gN bs 60 2 - (j + 1) < gN bs 60 2 - j; omega⟩
          by_cases ej : i' = i
          · exact ej ▸ hok
          · exact k2 i' h1 (by omega)
        · have d4 : ((hF bs i 4 4 : Nat) : Int) ≠ 4 := eqF d4
          have hok : seOK bs i := ⟨c1, hA, by rw [hnm]; exact r1, fun e => by omega, fun e => by omega⟩
          refine ⟨⟨j + 1, by omega, fun i' h1 h2 => ?_⟩, weak_gc [0] rfl ⟨rfl, rfl, rfl, rfl, rfl, congrArg (fun x => some (AV.t (.int .i64 x))) (i64_nat (n := j + 1) (by omega)), trivial⟩ ⟨rfl, trivial⟩, by show gN bs 60 2 - (j + 1) < gN bs 60 2 - j; omega⟩
          by_cases ej : i' = i
          · exact ej ▸ hok
          · exact k2 i' h1 (by omega)
      · have c3 : ((hF bs i 4 4 : Nat) : Int) = 8 := neB c3
        have hA : ¬ (hF bs i 4 4 ≠ 0 ∧ hF bs i 4 4 ≠ 8 ∧ ¬ hF bs i 24 8 + hF bs i 32 8 ≤ bs.length) := fun hh => hh.2.1 (by omega)
        refine CallS.pure (hTx (hF bs i 0 4) (by omega)) rfl ?_
        refine br_intro (fun r1 => ?_) (fun r1 => ?_)
        · have r1 := of_decide_eq_false (nb r1)
          exact And.intro (bno (nofail (fun hp => r1 (by have := hp.2.2.1; rw [hnm] at this; exact this)))) rfl
        have r1 := of_decide_eq_true (nb' r1)
        refine br_intro (fun d2 => ?_) (fun d2 => ?_)
        · have d2 : ((hF bs i 4 4 : Nat) : Int) = 2 := eq_of_beq d2
          have hw : hF bs i 24 8 + hF bs i 32 8 ≤ bs.length := by
            rcases Nat.lt_or_ge bs.length (hF bs i 24 8 + hF bs i 32 8) with q | q
            · exact (hA ⟨by omega, by omega, by omega⟩).elim
            · exact q
          refine CallS.snap (symbols_g bs hb i hw) (args_sec bs _ i _ _ (by omega)) (show flatT (.bool _) = true from rfl) ?_
          refine br_intro (fun s1 => ?_) (fun s1 => ?_)
          · have s1 := of_decide_eq_false (nb s1)
            exact And.intro (bno (nofail (fun hp => s1 (hp.2.2.2.1 (by omega))))) rfl
          have s1 := of_decide_eq_true (nb' s1)
          refine br_intro (fun d4 => ?_) (fun d4 => ?_)
          · have d4 : ((hF bs i 4 4 : Nat) : Int) = 4 := eq_of_beq d4
            omega
          have hok : seOK bs i := ⟨c1, hA, by rw [hnm]; exact r1, fun _ => s1, fun e => by omega⟩
          refine ⟨⟨j + 1, by omega, fun i' h1 h2 => ?_⟩, weak_gc [0] rfl ⟨rfl, rfl, rfl, rfl, rfl, congrArg (fun x => some (AV.t (.int .i64 x))) (i64_nat (n := j + 1) (by omega)), trivial⟩ ⟨rfl, trivial⟩, by show gN bs 60 2 - (j + 1) < gN bs 60 2 - j; omega⟩
          by_cases ej : i' = i
          · exact ej ▸ hok
          · exact k2 i' h1 (by omega)
        have d2 : ((hF bs i 4 4 : Nat) : Int) ≠ 2 := eqF d2
        refine br_intro (fun d4 => ?_) (fun d4 => ?_)
        · have d4 : ((hF bs i 4 4 : Nat) : Int) = 4 := eq_of_beq d4
          have hw : hF bs i 24 8 + hF bs i 32 8 ≤ bs.length := by
            rcases Nat.lt_or_ge bs.length (hF bs i 24 8 + hF bs i 32 8) with q | q
            · exact (hA ⟨by omega, by omega, by omega⟩).elim
            · exact q
          refine CallS.snap (relocs_g bs hb i hw) (args_sec bs _ i _ _ (by omega)) (show flatT (.bool _) = true from rfl) ?_
          refine br_intro (fun s1 => ?_) (fun s1 => ?_)
          · have s1 := of_decide_eq_false (nb s1)
            exact And.intro (bno (nofail (fun hp => s1 (hp.2.2.2.2 (by omega))))) rfl
          have s1 := of_decide_eq_true (nb' s1)
          have hok : seOK bs i := ⟨c1, hA, by rw [hnm]; exact r1, fun e => by omega, fun _ => s1⟩
          refine ⟨⟨j + 1, by omega, fun i' h1 h2 => ?_⟩, weak_gc [0] rfl ⟨rfl, rfl, rfl, rfl, rfl, congrArg (fun x => some (AV.t (.int .i64 x))) (i64_nat (n := j + 1) (by omega)), trivial⟩ ⟨rfl, trivial⟩, by show gN bs 60 2 - (j + 1) < gN bs 60 2 - j; omega⟩
          by_cases ej : i' = i
          · exact ej ▸ hok
          · exact k2 i' h1 (by omega)
        · have d4 : ((hF bs i 4 4 : Nat) : Int) ≠ 4 := eqF d4
          have hok : seOK bs i := ⟨c1, hA, by rw [hnm]; exact r1, fun e => by omega, fun e => by omega⟩
          refine ⟨⟨j + 1, by omega, fun i' h1 h2 => ?_⟩, weak_gc [0] rfl ⟨rfl, rfl, rfl, rfl, rfl, congrArg (fun x => some (AV.t (.int .i64 x))) (i64_nat (n := j + 1) (by omega)), trivial⟩ ⟨rfl, trivial⟩, by show gN bs 60 2 - (j + 1) < gN bs 60 2 - j; omega⟩
          by_cases ej : i' = i
          · exact ej ▸ hok
          · exact k2 i' h1 (by omega)
    · have c2 : ((hF bs i 4 4 : Nat) : Int) = 0 := neB c2
      have hA : ¬ (hF bs i 4 4 ≠ 0 ∧ hF bs i 4 4 ≠ 8 ∧ ¬ hF bs i 24 8 + hF bs i 32 8 ≤ bs.length) := fun hh => hh.1 (by omega)
      refine CallS.pure (hTx (hF bs i 0 4) (by omega)) rfl ?_
      refine br_intro (fun r1 => ?_) (fun r1 => ?_)
      · have r1 := of_decide_eq_false (nb r1)
        exact And.intro (bno (nofail (fun hp => r1 (by have := hp.2.2.1; rw [hnm] at this; exact this)))) rfl
      have r1 := of_decide_eq_true (nb' r1)
      refine br_intro (fun d2 => ?_) (fun d2 => ?_)
      · have d2 : ((hF bs i 4 4 : Nat) : Int) = 2 := eq_of_beq d2
        have hw : hF bs i 24 8 + hF bs i 32 8 ≤ bs.length := by
          rcases Nat.lt_or_ge bs.length (hF bs i 24 8 + hF bs i 32 8) with q | q
          · exact (hA ⟨by omega, by omega, by omega⟩).elim
          · exact q
        refine CallS.snap (symbols_g bs hb i hw) (args_sec bs _ i _ _ (by omega)) (show flatT (.bool _) = true from rfl) ?_
        refine br_intro (fun s1 => ?_) (fun s1 => ?_)
        · have s1 := of_decide_eq_false (nb s1)
          exact And.intro (bno (nofail (fun hp => s1 (hp.2.2.2.1 (by omega))))) rfl
        have s1 := of_decide_eq_true (nb' s1)
        refine br_intro (fun d4 => ?_) (fun d4 => ?_)
        · have d4 : ((hF bs i 4 4 : Nat) : Int) = 4 := eq_of_beq d4
          omega
        have hok : seOK bs i := ⟨c1, hA, by rw [hnm]; exact r1, fun _ => s1, fun e => by omega⟩
        refine ⟨⟨j + 1, by omega, fun i' h1 h2 => ?_⟩, weak_gc [0] rfl ⟨rfl, rfl, rfl, rfl, rfl, congrArg (fun x => some (AV.t (.int .i64 x))) (i64_nat (n := j + 1) (by omega)), trivial⟩ ⟨rfl, trivial⟩, by show gN bs 60 2 - (j + 1) < gN bs 60 2 - j; omega⟩
        by_cases ej : i' = i
        · exact ej ▸ hok
        · exact k2 i' h1 (by omega)
      have d2 : ((hF bs i 4 4 : Nat) : Int) ≠ 2 := eqF d2
      refine br_intro (fun d4 => ?_) (fun d4 => ?_)
      · have d4 : ((hF bs i 4 4 : Nat) : Int) = 4 := eq_of_beq d4
        have hw : hF bs i 24 8 + hF bs i 32 8 ≤ bs.length := by
          rcases Nat.lt_or_ge bs.length (hF bs i 24 8 + hF bs i 32 8) with q | q
          · exact (hA ⟨by omega, by omega, by omega⟩).elim
          · exact q
        refine CallS.snap (relocs_g bs hb i hw) (args_sec bs _ i _ _ (by omega)) (show flatT (.bool _) = true from rfl) ?_
        refine br_intro (fun s1 => ?_) (fun s1 => ?_)
        · have s1 := of_decide_eq_false (nb s1)
          exact And.intro (bno (nofail (fun hp => s1 (hp.2.2.2.2 (by omega))))) rfl
        have s1 := of_decide_eq_true (nb' s1)
        have hok : seOK bs i := ⟨c1, hA, by rw [hnm]; exact r1, fun e => by omega, fun _ => s1⟩
        refine ⟨⟨j + 1, by omega, fun i' h1 h2 => ?_⟩, weak_gc [0] rfl ⟨rfl, rfl, rfl, rfl, rfl, congrArg (fun x => some (AV.t (.int .i64 x))) (i64_nat (n := j + 1) (by omega)), trivial⟩ ⟨rfl, trivial⟩, by show gN bs 60 2 - (j + 1) < gN bs 60 2 - j; omega⟩
        by_cases ej : i' = i
        · exact ej ▸ hok
        · exact k2 i' h1 (by omega)
      · have d4 : ((hF bs i 4 4 : Nat) : Int) ≠ 4 := eqF d4
        have hok : seOK bs i := ⟨c1, hA, by rw [hnm]; exact r1, fun e => by omega, fun e => by omega⟩
        refine ⟨⟨j + 1, by omega, fun i' h1 h2 => ?_⟩, weak_gc [0] rfl ⟨rfl, rfl, rfl, rfl, rfl, congrArg (fun x => some (AV.t (.int .i64 x))) (i64_nat (n := j + 1) (by omega)), trivial⟩ ⟨rfl, trivial⟩, by show gN bs 60 2 - (j + 1) < gN bs 60 2 - j; omega⟩
        by_cases ej : i' = i
        · exact ej ▸ hok
        · exact k2 i' h1 (by omega)
  | nil =>
    have hTx : ∀ a : Nat, a < 18446744073709551616 → Runs Tryd.prog 66 [.nils, .int .u64 (a : Int)] (.t (.bool (decide (tx [] a)))) := fun a ha => text_g .nil (by simp) ha
    refine CallS.pure hL2 rfl ?_
    refine ck_intro (by rw [secL_len]; simp; omega) ?_
    refine loop_on (fun j : Nat => j + 1 ≤ gN bs 60 2 ∧ ∀ i, 1 ≤ i → i < j + 1 → seOK bs i) (fun j => ⟨[(0, .t (.vec 1 (U bs))), (3, .sl 0 0 0 (secL bs (gN bs 60 2)).length), (4, .sl 1 0 0 0), (20, .sl 0 0 1 ((secL bs (gN bs 60 2)).length - 1)), (21, .t (.int .i64 (((secL bs (gN bs 60 2)).length - 1 : Nat) : Int))), (22, .t (.int .i64 (j : Int)))], [.arr 110 8 true 0 (.ts (secL bs (gN bs 60 2))), .arr 5 1 true 0 (.ts [])]⟩)
      (fun j => gN bs 60 2 - j) 0 ⟨by omega, fun i h1 h2 => by omega⟩ (weak_of ⟨rfl, rfl, rfl, rfl, rfl, rfl, trivial⟩ rfl) (fun j hj => ?_)
    obtain ⟨k1, k2⟩ := hj
    refine br_intro (fun h => ?_) (fun h => ?_)
    rotate_left
    · have h : ¬ (j : Int) < (((secL bs (gN bs 60 2)).length - 1 : Nat) : Int) := of_decide_eq_false h
      rw [secL_len] at h
      exact And.intro (byes (fun i h1 h2 => k2 i h1 (by omega))) rfl
    have h : (j : Int) < (((secL bs (gN bs 60 2)).length - 1 : Nat) : Int) := of_decide_eq_true h
    rw [secL_len] at h
    refine ck_intro (show inB (j : Int) ((secL bs (gN bs 60 2)).length - 1) = true by unfold inB; rw [secL_len]; simp; omega) ?_
    refine opt_intro (secL_get (show 1 + ((j : Int)).toNat < gN bs 60 2 by rw [Int.toNat_natCast]; omega)) ?_
    generalize hi : 1 + ((j : Int)).toNat = i
    have hi : i = j + 1 := by rw [← hi, Int.toNat_natCast]; omega
    have l48 := hF_lt8 bs i 48
    have l24 := hF_lt8 bs i 24
    have l32 := hF_lt8 bs i 32
    have l0 := hF_lt4 bs i 0
    have nofail : ¬ seOK bs i → ¬ seP bs := fun hn hp => hn (hp i (by omega) (by omega))
    obtain ⟨pb, hPw, hpb⟩ := power_g (n := hF bs i 48 8) l48
    refine CallS.pure hPw rfl ?_
    refine br_intro (fun c1 => ?_) (fun c1 => ?_)
    · have c1 : pb = false := nb c1
      exact And.intro (bno (nofail (fun hp => by rw [hpb.2 hp.1] at c1; cases c1))) rfl
    have c1 : pw (hF bs i 48 8) := hpb.1 (nb' c1)
    refine br_intro (fun c2 => ?_) (fun c2 => ?_)
    · have c2 : ((hF bs i 4 4 : Nat) : Int) ≠ 0 := neT c2
      refine br_intro (fun c3 => ?_) (fun c3 => ?_)
      · have c3 : ((hF bs i 4 4 : Nat) : Int) ≠ 8 := neT c3
        refine CallS.pure (within_g hx hb l24 l32) rfl ?_
        refine br_intro (fun c4 => ?_) (fun c4 => ?_)
        · have c4 := of_decide_eq_false (nb c4)
          exact And.intro (bno (nofail (fun hp => hp.2.1 ⟨by omega, by omega, c4⟩))) rfl
        have c4 := of_decide_eq_true (nb' c4)
        have hA : ¬ (hF bs i 4 4 ≠ 0 ∧ hF bs i 4 4 ≠ 8 ∧ ¬ hF bs i 24 8 + hF bs i 32 8 ≤ bs.length) := fun hh => hh.2.2 c4
        refine CallS.snap (hTx (hF bs i 0 4) (by omega)) rfl (show flatT (.bool _) = true from rfl) ?_
        refine br_intro (fun r1 => ?_) (fun r1 => ?_)
        · have r1 := of_decide_eq_false (nb r1)
          exact And.intro (bno (nofail (fun hp => r1 (by have := hp.2.2.1; rw [hnm] at this; exact this)))) rfl
        have r1 := of_decide_eq_true (nb' r1)
        refine br_intro (fun d2 => ?_) (fun d2 => ?_)
        · have d2 : ((hF bs i 4 4 : Nat) : Int) = 2 := eq_of_beq d2
          have hw : hF bs i 24 8 + hF bs i 32 8 ≤ bs.length := by
            rcases Nat.lt_or_ge bs.length (hF bs i 24 8 + hF bs i 32 8) with q | q
            · exact (hA ⟨by omega, by omega, by omega⟩).elim
            · exact q
          refine CallS.snap (symbols_g bs hb i hw) (args_sec bs _ i _ _ (by omega)) (show flatT (.bool _) = true from rfl) ?_
          refine br_intro (fun s1 => ?_) (fun s1 => ?_)
          · have s1 := of_decide_eq_false (nb s1)
            exact And.intro (bno (nofail (fun hp => s1 (hp.2.2.2.1 (by omega))))) rfl
          have s1 := of_decide_eq_true (nb' s1)
          refine br_intro (fun d4 => ?_) (fun d4 => ?_)
          · have d4 : ((hF bs i 4 4 : Nat) : Int) = 4 := eq_of_beq d4
            omega
          have hok : seOK bs i := ⟨c1, hA, by rw [hnm]; exact r1, fun _ => s1, fun e => by omega⟩
          refine ⟨⟨j + 1, by omega, fun i' h1 h2 => ?_⟩, weak_gc [0, 1] rfl ⟨rfl, rfl, rfl, rfl, rfl, congrArg (fun x => some (AV.t (.int .i64 x))) (i64_nat (n := j + 1) (by omega)), trivial⟩ ⟨rfl, rfl, trivial⟩, by show gN bs 60 2 - (j + 1) < gN bs 60 2 - j; omega⟩
          by_cases ej : i' = i
          · exact ej ▸ hok
          · exact k2 i' h1 (by omega)
        have d2 : ((hF bs i 4 4 : Nat) : Int) ≠ 2 := eqF d2
        refine br_intro (fun d4 => ?_) (fun d4 => ?_)
        · have d4 : ((hF bs i 4 4 : Nat) : Int) = 4 := eq_of_beq d4
          have hw : hF bs i 24 8 + hF bs i 32 8 ≤ bs.length := by
            rcases Nat.lt_or_ge bs.length (hF bs i 24 8 + hF bs i 32 8) with q | q
            · exact (hA ⟨by omega, by omega, by omega⟩).elim
            · exact q
          refine CallS.snap (relocs_g bs hb i hw) (args_sec bs _ i _ _ (by omega)) (show flatT (.bool _) = true from rfl) ?_
          refine br_intro (fun s1 => ?_) (fun s1 => ?_)
          · have s1 := of_decide_eq_false (nb s1)
            exact And.intro (bno (nofail (fun hp => s1 (hp.2.2.2.2 (by omega))))) rfl
          have s1 := of_decide_eq_true (nb' s1)
          have hok : seOK bs i := ⟨c1, hA, by rw [hnm]; exact r1, fun e => by omega, fun _ => s1⟩
          refine ⟨⟨j + 1, by omega, fun i' h1 h2 => ?_⟩, weak_gc [0, 1] rfl ⟨rfl, rfl, rfl, rfl, rfl, congrArg (fun x => some (AV.t (.int .i64 x))) (i64_nat (n := j + 1) (by omega)), trivial⟩ ⟨rfl, rfl, trivial⟩, by show gN bs 60 2 - (j + 1) < gN bs 60 2 - j; omega⟩
          by_cases ej : i' = i
          · exact ej ▸ hok
          · exact k2 i' h1 (by omega)
        · have d4 : ((hF bs i 4 4 : Nat) : Int) ≠ 4 := eqF d4
          have hok : seOK bs i := ⟨c1, hA, by rw [hnm]; exact r1, fun e => by omega, fun e => by omega⟩
          refine ⟨⟨j + 1, by omega, fun i' h1 h2 => ?_⟩, weak_gc [0, 1] rfl ⟨rfl, rfl, rfl, rfl, rfl, congrArg (fun x => some (AV.t (.int .i64 x))) (i64_nat (n := j + 1) (by omega)), trivial⟩ ⟨rfl, rfl, trivial⟩, by show gN bs 60 2 - (j + 1) < gN bs 60 2 - j; omega⟩
          by_cases ej : i' = i
          · exact ej ▸ hok
          · exact k2 i' h1 (by omega)
      · have c3 : ((hF bs i 4 4 : Nat) : Int) = 8 := neB c3
        have hA : ¬ (hF bs i 4 4 ≠ 0 ∧ hF bs i 4 4 ≠ 8 ∧ ¬ hF bs i 24 8 + hF bs i 32 8 ≤ bs.length) := fun hh => hh.2.1 (by omega)
        refine CallS.snap (hTx (hF bs i 0 4) (by omega)) rfl (show flatT (.bool _) = true from rfl) ?_
        refine br_intro (fun r1 => ?_) (fun r1 => ?_)
        · have r1 := of_decide_eq_false (nb r1)
          exact And.intro (bno (nofail (fun hp => r1 (by have := hp.2.2.1; rw [hnm] at this; exact this)))) rfl
        have r1 := of_decide_eq_true (nb' r1)
        refine br_intro (fun d2 => ?_) (fun d2 => ?_)
        · have d2 : ((hF bs i 4 4 : Nat) : Int) = 2 := eq_of_beq d2
          have hw : hF bs i 24 8 + hF bs i 32 8 ≤ bs.length := by
            rcases Nat.lt_or_ge bs.length (hF bs i 24 8 + hF bs i 32 8) with q | q
            · exact (hA ⟨by omega, by omega, by omega⟩).elim
            · exact q
          refine CallS.snap (symbols_g bs hb i hw) (args_sec bs _ i _ _ (by omega)) (show flatT (.bool _) = true from rfl) ?_
          refine br_intro (fun s1 => ?_) (fun s1 => ?_)
          · have s1 := of_decide_eq_false (nb s1)
            exact And.intro (bno (nofail (fun hp => s1 (hp.2.2.2.1 (by omega))))) rfl
          have s1 := of_decide_eq_true (nb' s1)
          refine br_intro (fun d4 => ?_) (fun d4 => ?_)
          · have d4 : ((hF bs i 4 4 : Nat) : Int) = 4 := eq_of_beq d4
            omega
          have hok : seOK bs i := ⟨c1, hA, by rw [hnm]; exact r1, fun _ => s1, fun e => by omega⟩
          refine ⟨⟨j + 1, by omega, fun i' h1 h2 => ?_⟩, weak_gc [0, 1] rfl ⟨rfl, rfl, rfl, rfl, rfl, congrArg (fun x => some (AV.t (.int .i64 x))) (i64_nat (n := j + 1) (by omega)), trivial⟩ ⟨rfl, rfl, trivial⟩, by show gN bs 60 2 - (j + 1) < gN bs 60 2 - j; omega⟩
          by_cases ej : i' = i
          · exact ej ▸ hok
          · exact k2 i' h1 (by omega)
        have d2 : ((hF bs i 4 4 : Nat) : Int) ≠ 2 := eqF d2
        refine br_intro (fun d4 => ?_) (fun d4 => ?_)
        · have d4 : ((hF bs i 4 4 : Nat) : Int) = 4 := eq_of_beq d4
          have hw : hF bs i 24 8 + hF bs i 32 8 ≤ bs.length := by
            rcases Nat.lt_or_ge bs.length (hF bs i 24 8 + hF bs i 32 8) with q | q
            · exact (hA ⟨by omega, by omega, by omega⟩).elim
            · exact q
          refine CallS.snap (relocs_g bs hb i hw) (args_sec bs _ i _ _ (by omega)) (show flatT (.bool _) = true from rfl) ?_
          refine br_intro (fun s1 => ?_) (fun s1 => ?_)
          · have s1 := of_decide_eq_false (nb s1)
            exact And.intro (bno (nofail (fun hp => s1 (hp.2.2.2.2 (by omega))))) rfl
          have s1 := of_decide_eq_true (nb' s1)
          have hok : seOK bs i := ⟨c1, hA, by rw [hnm]; exact r1, fun e => by omega, fun _ => s1⟩
          refine ⟨⟨j + 1, by omega, fun i' h1 h2 => ?_⟩, weak_gc [0, 1] rfl ⟨rfl, rfl, rfl, rfl, rfl, congrArg (fun x => some (AV.t (.int .i64 x))) (i64_nat (n := j + 1) (by omega)), trivial⟩ ⟨rfl, rfl, trivial⟩, by show gN bs 60 2 - (j + 1) < gN bs 60 2 - j; omega⟩
          by_cases ej : i' = i
          · exact ej ▸ hok
          · exact k2 i' h1 (by omega)
        · have d4 : ((hF bs i 4 4 : Nat) : Int) ≠ 4 := eqF d4
          have hok : seOK bs i := ⟨c1, hA, by rw [hnm]; exact r1, fun e => by omega, fun e => by omega⟩
          refine ⟨⟨j + 1, by omega, fun i' h1 h2 => ?_⟩, weak_gc [0, 1] rfl ⟨rfl, rfl, rfl, rfl, rfl, congrArg (fun x => some (AV.t (.int .i64 x))) (i64_nat (n := j + 1) (by omega)), trivial⟩ ⟨rfl, rfl, trivial⟩, by show gN bs 60 2 - (j + 1) < gN bs 60 2 - j; omega⟩
          by_cases ej : i' = i
          · exact ej ▸ hok
          · exact k2 i' h1 (by omega)
    · have c2 : ((hF bs i 4 4 : Nat) : Int) = 0 := neB c2
      have hA : ¬ (hF bs i 4 4 ≠ 0 ∧ hF bs i 4 4 ≠ 8 ∧ ¬ hF bs i 24 8 + hF bs i 32 8 ≤ bs.length) := fun hh => hh.1 (by omega)
      refine CallS.snap (hTx (hF bs i 0 4) (by omega)) rfl (show flatT (.bool _) = true from rfl) ?_
      refine br_intro (fun r1 => ?_) (fun r1 => ?_)
      · have r1 := of_decide_eq_false (nb r1)
        exact And.intro (bno (nofail (fun hp => r1 (by have := hp.2.2.1; rw [hnm] at this; exact this)))) rfl
      have r1 := of_decide_eq_true (nb' r1)
      refine br_intro (fun d2 => ?_) (fun d2 => ?_)
      · have d2 : ((hF bs i 4 4 : Nat) : Int) = 2 := eq_of_beq d2
        have hw : hF bs i 24 8 + hF bs i 32 8 ≤ bs.length := by
          rcases Nat.lt_or_ge bs.length (hF bs i 24 8 + hF bs i 32 8) with q | q
          · exact (hA ⟨by omega, by omega, by omega⟩).elim
          · exact q
        refine CallS.snap (symbols_g bs hb i hw) (args_sec bs _ i _ _ (by omega)) (show flatT (.bool _) = true from rfl) ?_
        refine br_intro (fun s1 => ?_) (fun s1 => ?_)
        · have s1 := of_decide_eq_false (nb s1)
          exact And.intro (bno (nofail (fun hp => s1 (hp.2.2.2.1 (by omega))))) rfl
        have s1 := of_decide_eq_true (nb' s1)
        refine br_intro (fun d4 => ?_) (fun d4 => ?_)
        · have d4 : ((hF bs i 4 4 : Nat) : Int) = 4 := eq_of_beq d4
          omega
        have hok : seOK bs i := ⟨c1, hA, by rw [hnm]; exact r1, fun _ => s1, fun e => by omega⟩
        refine ⟨⟨j + 1, by omega, fun i' h1 h2 => ?_⟩, weak_gc [0, 1] rfl ⟨rfl, rfl, rfl, rfl, rfl, congrArg (fun x => some (AV.t (.int .i64 x))) (i64_nat (n := j + 1) (by omega)), trivial⟩ ⟨rfl, rfl, trivial⟩, by show gN bs 60 2 - (j + 1) < gN bs 60 2 - j; omega⟩
        by_cases ej : i' = i
        · exact ej ▸ hok
        · exact k2 i' h1 (by omega)
      have d2 : ((hF bs i 4 4 : Nat) : Int) ≠ 2 := eqF d2
      refine br_intro (fun d4 => ?_) (fun d4 => ?_)
      · have d4 : ((hF bs i 4 4 : Nat) : Int) = 4 := eq_of_beq d4
        have hw : hF bs i 24 8 + hF bs i 32 8 ≤ bs.length := by
          rcases Nat.lt_or_ge bs.length (hF bs i 24 8 + hF bs i 32 8) with q | q
          · exact (hA ⟨by omega, by omega, by omega⟩).elim
          · exact q
        refine CallS.snap (relocs_g bs hb i hw) (args_sec bs _ i _ _ (by omega)) (show flatT (.bool _) = true from rfl) ?_
        refine br_intro (fun s1 => ?_) (fun s1 => ?_)
        · have s1 := of_decide_eq_false (nb s1)
          exact And.intro (bno (nofail (fun hp => s1 (hp.2.2.2.2 (by omega))))) rfl
        have s1 := of_decide_eq_true (nb' s1)
        have hok : seOK bs i := ⟨c1, hA, by rw [hnm]; exact r1, fun e => by omega, fun _ => s1⟩
        refine ⟨⟨j + 1, by omega, fun i' h1 h2 => ?_⟩, weak_gc [0, 1] rfl ⟨rfl, rfl, rfl, rfl, rfl, congrArg (fun x => some (AV.t (.int .i64 x))) (i64_nat (n := j + 1) (by omega)), trivial⟩ ⟨rfl, rfl, trivial⟩, by show gN bs 60 2 - (j + 1) < gN bs 60 2 - j; omega⟩
        by_cases ej : i' = i
        · exact ej ▸ hok
        · exact k2 i' h1 (by omega)
      · have d4 : ((hF bs i 4 4 : Nat) : Int) ≠ 4 := eqF d4
        have hok : seOK bs i := ⟨c1, hA, by rw [hnm]; exact r1, fun e => by omega, fun e => by omega⟩
        refine ⟨⟨j + 1, by omega, fun i' h1 h2 => ?_⟩, weak_gc [0, 1] rfl ⟨rfl, rfl, rfl, rfl, rfl, congrArg (fun x => some (AV.t (.int .i64 x))) (i64_nat (n := j + 1) (by omega)), trivial⟩ ⟨rfl, rfl, trivial⟩, by show gN bs 60 2 - (j + 1) < gN bs 60 2 - j; omega⟩
        by_cases ej : i' = i
        · exact ej ▸ hok
        · exact k2 i' h1 (by omega)

end Go.Proofs.YthpkehhghcpolaaDoor
