/-
  The sections of a file: the document's function; the two programs' answers on a file.
-/
import Derived.Test.YthpkehhghcpolaaDoorCkb
namespace Go.Proofs.YthpkehhghcpolaaDoor
open Go.IntWalk
set_option maxRecDepth 100000
set_option linter.unusedVariables false
set_option linter.unusedSimpArgs false

set_option maxHeartbeats 4000000 in
theorem sections_r (bs : List UInt8) (hb : bs.length ≤ 140737488351232) (ht : gN bs 60 2 = 0 ∨ gN bs 62 2 < gN bs 60 2) :
    Runs Tryd.prog 46 [.vec 1 (U bs)] (.t (.bool (decide (seP bs)))) := by
  have hx : BX (.vec 1 (U bs)) bs := .vec bs _ rfl
  have hcnt := g2_lt bs 60
  have hnl : (sB bs (gN bs 62 2)).length ≤ 140737488351232 := by have := sB_le bs (gN bs 62 2); omega
  have hPa := part_r bs hb (gN bs 62 2) (g2_lt _ _)
  have hnB := sT_BX bs (gN bs 62 2)
  generalize hnt : sT bs (gN bs 62 2) = nt at hPa hnB
  generalize hnm : sB bs (gN bs 62 2) = nm at hnl hnB
  cases hnB with
  | vec nm L e =>
    subst e
    have hTx : ∀ a : Nat, a < 18446744073709551616 → Runs Tryd.prog 73 [.vec 1 (U nm), .int .u64 (a : Int)] (.t (.bool (decide (tx nm a)))) := fun a ha => text_r (.vec nm _ rfl) hnl ha
    refine Runs.of_call ?_ rfl
    refine CallS.of_fn tab_ok reg_ok Tryd.func46 rfl rfl ?_
    refine loop_on (fun i : Nat => 1 ≤ i ∧ i ≤ 65536 ∧ ∀ j, 1 ≤ j → j < i → j < gN bs 60 2 → seOK bs j) (fun i => ⟨[(0, .t (.vec 1 (U bs))), (3, .t (.int .u64 (i : Int)))], []⟩) (fun i => 65536 - i) 1 ⟨by omega, by omega, fun j h1 h2 => by omega⟩ (weak_of ⟨rfl, rfl, trivial⟩ rfl) (fun i hi => ?_)
    obtain ⟨i1, i2, i3⟩ := hi
    refine CallS.pure (num_r hx hb (a := 60) (n := 2) (by omega) (by omega)) rfl ?_
    refine br_intro (fun h => ?_) (fun h => ?_)
    rotate_left
    · have h : ¬ (i : Int) < ((gN bs 60 2 : Nat) : Int) := of_decide_eq_false h
      exact And.intro (byes (fun j h1 h2 => i3 j h1 (by omega) h2)) rfl
    have h : (i : Int) < ((gN bs 60 2 : Nat) : Int) := of_decide_eq_true h
    have hi16 : i < 65536 := by omega
    have l48 := hF_lt8 bs i 48
    have l24 := hF_lt8 bs i 24
    have l32 := hF_lt8 bs i 32
    have l0 := hF_lt4 bs i 0
    have nofail : ¬ seOK bs i → ¬ seP bs := fun hn hp => hn (hp i (by omega) (by omega))
    obtain ⟨pb, hPw, hpb⟩ := power_r (n := hF bs i 48 8) l48
    have hIn := in_r (l := bs.length) (a := hF bs i 24 8) (n := hF bs i 32 8) hb l24 l32
    rw [← U_len bs] at hIn
    refine CallS.pure (header_r bs hb i hi16) rfl ?_
    refine CallS.pure (field_r bs hb i 4 4 (by omega)) rfl ?_
    refine CallS.pure (field_r bs hb i 48 8 (by omega)) rfl ?_
    refine CallS.pure hPw rfl ?_
    refine br_intro (fun c1 => ?_) (fun c1 => ?_)
    · have c1 : pb = false := nb c1
      exact And.intro (bno (nofail (fun hp => by rw [hpb.2 hp.1] at c1; cases c1))) rfl
    have c1 : pw (hF bs i 48 8) := hpb.1 (nb' c1)
    refine br_intro (fun c2 => ?_) (fun c2 => ?_)
    · have c2 : ((hF bs i 4 4 : Nat) : Int) ≠ 0 := neT c2
      refine br_intro (fun c3 => ?_) (fun c3 => ?_)
      · have c3 : ((hF bs i 4 4 : Nat) : Int) ≠ 8 := neT c3
        refine CallS.pure (field_r bs hb i 24 8 (by omega)) rfl ?_
        refine CallS.pure (field_r bs hb i 32 8 (by omega)) rfl ?_
        refine CallS.pure hIn rfl ?_
        refine br_intro (fun c4 => ?_) (fun c4 => ?_)
        · have c4 := of_decide_eq_false (nb c4)
          rw [U_len] at c4
          exact And.intro (bno (nofail (fun hp => hp.2.1 ⟨by omega, by omega, c4⟩))) rfl
        have c4 := of_decide_eq_true (nb' c4)
        rw [U_len] at c4
        have hA : ¬ (hF bs i 4 4 ≠ 0 ∧ hF bs i 4 4 ≠ 8 ∧ ¬ hF bs i 24 8 + hF bs i 32 8 ≤ bs.length) := fun hh => hh.2.2 c4
        refine CallS.pure (num_r hx hb (a := 62) (n := 2) (by omega) (by omega)) rfl ?_
        refine CallS.pure hPa rfl ?_
        refine CallS.pure (field0_r bs hb i 4 (by omega)) rfl ?_
        refine CallS.pure (hTx (hF bs i 0 4) (by omega)) rfl ?_
        refine br_intro (fun r1 => ?_) (fun r1 => ?_)
        · have r1 := of_decide_eq_false (nb r1)
          exact And.intro (bno (nofail (fun hp => r1 (by have := hp.2.2.1; rw [hnm] at this; exact this)))) rfl
        have r1 := of_decide_eq_true (nb' r1)
        refine br_intro (fun d2 => ?_) (fun d2 => ?_)
        · have d2 : ((hF bs i 4 4 : Nat) : Int) = 2 := eq_of_beq d2
          have hw : hF bs i 24 8 + hF bs i 32 8 ≤ bs.length := by
            rcases Nat.lt_or_ge bs.length (hF bs i 24 8 + hF bs i 32 8) with q | q
            · exact (hA ⟨by omega, by omega, by omega⟩).elim
            · exact q
          refine CallS.pure (symbols_r bs hb i hi16 hw) rfl ?_
          refine br_intro (fun s1 => ?_) (fun s1 => ?_)
          · have s1 := of_decide_eq_false (nb s1)
            exact And.intro (bno (nofail (fun hp => s1 (hp.2.2.2.1 (by omega))))) rfl
          have s1 := of_decide_eq_true (nb' s1)
          refine br_intro (fun d4 => ?_) (fun d4 => ?_)
          · have d4 : ((hF bs i 4 4 : Nat) : Int) = 4 := eq_of_beq d4
            omega
          have hok : seOK bs i := ⟨c1, hA, by rw [hnm]; exact r1, fun _ => s1, fun e => by omega⟩
          refine ⟨⟨i + 1, by omega, by omega, fun j h1 h2 h3 => ?_⟩, weak_of ⟨rfl, congrArg (fun x => AV.t (.int .u64 x)) (u64_nat (n := i + 1) (by omega)), trivial⟩ rfl, by show 65536 - (i + 1) < 65536 - i; omega⟩
          by_cases ej : j = i
          · exact ej ▸ hok
          · exact i3 j h1 (by omega) h3
        have d2 : ((hF bs i 4 4 : Nat) : Int) ≠ 2 := eqF d2
        refine br_intro (fun d4 => ?_) (fun d4 => ?_)
        · have d4 : ((hF bs i 4 4 : Nat) : Int) = 4 := eq_of_beq d4
          have hw : hF bs i 24 8 + hF bs i 32 8 ≤ bs.length := by
            rcases Nat.lt_or_ge bs.length (hF bs i 24 8 + hF bs i 32 8) with q | q
            · exact (hA ⟨by omega, by omega, by omega⟩).elim
            · exact q
          refine CallS.pure (relocs_r bs hb i hi16 hw) rfl ?_
          refine br_intro (fun s1 => ?_) (fun s1 => ?_)
          · have s1 := of_decide_eq_false (nb s1)
            exact And.intro (bno (nofail (fun hp => s1 (hp.2.2.2.2 (by omega))))) rfl
          have s1 := of_decide_eq_true (nb' s1)
          have hok : seOK bs i := ⟨c1, hA, by rw [hnm]; exact r1, fun e => by omega, fun _ => s1⟩
          refine ⟨⟨i + 1, by omega, by omega, fun j h1 h2 h3 => ?_⟩, weak_of ⟨rfl, congrArg (fun x => AV.t (.int .u64 x)) (u64_nat (n := i + 1) (by omega)), trivial⟩ rfl, by show 65536 - (i + 1) < 65536 - i; omega⟩
          by_cases ej : j = i
          · exact ej ▸ hok
          · exact i3 j h1 (by omega) h3
        · have d4 : ((hF bs i 4 4 : Nat) : Int) ≠ 4 := eqF d4
          have hok : seOK bs i := ⟨c1, hA, by rw [hnm]; exact r1, fun e => by omega, fun e => by omega⟩
          refine ⟨⟨i + 1, by omega, by omega, fun j h1 h2 h3 => ?_⟩, weak_of ⟨rfl, congrArg (fun x => AV.t (.int .u64 x)) (u64_nat (n := i + 1) (by omega)), trivial⟩ rfl, by show 65536 - (i + 1) < 65536 - i; omega⟩
          by_cases ej : j = i
          · exact ej ▸ hok
          · exact i3 j h1 (by omega) h3
      · have c3 : ((hF bs i 4 4 : Nat) : Int) = 8 := neB c3
        have hA : ¬ (hF bs i 4 4 ≠ 0 ∧ hF bs i 4 4 ≠ 8 ∧ ¬ hF bs i 24 8 + hF bs i 32 8 ≤ bs.length) := fun hh => hh.2.1 (by omega)
        refine CallS.pure (num_r hx hb (a := 62) (n := 2) (by omega) (by omega)) rfl ?_
        refine CallS.pure hPa rfl ?_
        refine CallS.pure (field0_r bs hb i 4 (by omega)) rfl ?_
        refine CallS.pure (hTx (hF bs i 0 4) (by omega)) rfl ?_
        refine br_intro (fun r1 => ?_) (fun r1 => ?_)
        · have r1 := of_decide_eq_false (nb r1)
          exact And.intro (bno (nofail (fun hp => r1 (by have := hp.2.2.1; rw [hnm] at this; exact this)))) rfl
        have r1 := of_decide_eq_true (nb' r1)
        refine br_intro (fun d2 => ?_) (fun d2 => ?_)
        · have d2 : ((hF bs i 4 4 : Nat) : Int) = 2 := eq_of_beq d2
          have hw : hF bs i 24 8 + hF bs i 32 8 ≤ bs.length := by
            rcases Nat.lt_or_ge bs.length (hF bs i 24 8 + hF bs i 32 8) with q | q
            · exact (hA ⟨by omega, by omega, by omega⟩).elim
            · exact q
          refine CallS.pure (symbols_r bs hb i hi16 hw) rfl ?_
          refine br_intro (fun s1 => ?_) (fun s1 => ?_)
          · have s1 := of_decide_eq_false (nb s1)
            exact And.intro (bno (nofail (fun hp => s1 (hp.2.2.2.1 (by omega))))) rfl
          have s1 := of_decide_eq_true (nb' s1)
          refine br_intro (fun d4 => ?_) (fun d4 => ?_)
          · have d4 : ((hF bs i 4 4 : Nat) : Int) = 4 := eq_of_beq d4
            omega
          have hok : seOK bs i := ⟨c1, hA, by rw [hnm]; exact r1, fun _ => s1, fun e => by omega⟩
          refine ⟨⟨i + 1, by omega, by omega, fun j h1 h2 h3 => ?_⟩, weak_of ⟨rfl, congrArg (fun x => AV.t (.int .u64 x)) (u64_nat (n := i + 1) (by omega)), trivial⟩ rfl, by show 65536 - (i + 1) < 65536 - i; omega⟩
          by_cases ej : j = i
          · exact ej ▸ hok
          · exact i3 j h1 (by omega) h3
        have d2 : ((hF bs i 4 4 : Nat) : Int) ≠ 2 := eqF d2
        refine br_intro (fun d4 => ?_) (fun d4 => ?_)
        · have d4 : ((hF bs i 4 4 : Nat) : Int) = 4 := eq_of_beq d4
          have hw : hF bs i 24 8 + hF bs i 32 8 ≤ bs.length := by
            rcases Nat.lt_or_ge bs.length (hF bs i 24 8 + hF bs i 32 8) with q | q
            · exact (hA ⟨by omega, by omega, by omega⟩).elim
            · exact q
          refine CallS.pure (relocs_r bs hb i hi16 hw) rfl ?_
          refine br_intro (fun s1 => ?_) (fun s1 => ?_)
          · have s1 := of_decide_eq_false (nb s1)
            exact And.intro (bno (nofail (fun hp => s1 (hp.2.2.2.2 (by omega))))) rfl
          have s1 := of_decide_eq_true (nb' s1)
          have hok : seOK bs i := ⟨c1, hA, by rw [hnm]; exact r1, fun e => by omega, fun _ => s1⟩
          refine ⟨⟨i + 1, by omega, by omega, fun j h1 h2 h3 => ?_⟩, weak_of ⟨rfl, congrArg (fun x => AV.t (.int .u64 x)) (u64_nat (n := i + 1) (by omega)), trivial⟩ rfl, by show 65536 - (i + 1) < 65536 - i; omega⟩
          by_cases ej : j = i
          · exact ej ▸ hok
          · exact i3 j h1 (by omega) h3
        · have d4 : ((hF bs i 4 4 : Nat) : Int) ≠ 4 := eqF d4
          have hok : seOK bs i := ⟨c1, hA, by rw [hnm]; exact r1, fun e => by omega, fun e => by omega⟩
          refine ⟨⟨i + 1, by omega, by omega, fun j h1 h2 h3 => ?_⟩, weak_of ⟨rfl, congrArg (fun x => AV.t (.int .u64 x)) (u64_nat (n := i + 1) (by omega)), trivial⟩ rfl, by show 65536 - (i + 1) < 65536 - i; omega⟩
          by_cases ej : j = i
          · exact ej ▸ hok
          · exact i3 j h1 (by omega) h3
    · have c2 : ((hF bs i 4 4 : Nat) : Int) = 0 := neB c2
      have hA : ¬ (hF bs i 4 4 ≠ 0 ∧ hF bs i 4 4 ≠ 8 ∧ ¬ hF bs i 24 8 + hF bs i 32 8 ≤ bs.length) := fun hh => hh.1 (by omega)
      refine CallS.pure (num_r hx hb (a := 62) (n := 2) (by omega) (by omega)) rfl ?_
      refine CallS.pure hPa rfl ?_
      refine CallS.pure (field0_r bs hb i 4 (by omega)) rfl ?_
      refine CallS.pure (hTx (hF bs i 0 4) (by omega)) rfl ?_
      refine br_intro (fun r1 => ?_) (fun r1 => ?_)
      · have r1 := of_decide_eq_false (nb r1)
        exact And.intro (bno (nofail (fun hp => r1 (by have := hp.2.2.1; rw [hnm] at this; exact this)))) rfl
      have r1 := of_decide_eq_true (nb' r1)
      refine br_intro (fun d2 => ?_) (fun d2 => ?_)
      · have d2 : ((hF bs i 4 4 : Nat) : Int) = 2 := eq_of_beq d2
        have hw : hF bs i 24 8 + hF bs i 32 8 ≤ bs.length := by
          rcases Nat.lt_or_ge bs.length (hF bs i 24 8 + hF bs i 32 8) with q | q
          · exact (hA ⟨by omega, by omega, by omega⟩).elim
          · exact q
        refine CallS.pure (symbols_r bs hb i hi16 hw) rfl ?_
        refine br_intro (fun s1 => ?_) (fun s1 => ?_)
        · have s1 := of_decide_eq_false (nb s1)
          exact And.intro (bno (nofail (fun hp => s1 (hp.2.2.2.1 (by omega))))) rfl
        have s1 := of_decide_eq_true (nb' s1)
        refine br_intro (fun d4 => ?_) (fun d4 => ?_)
        · have d4 : ((hF bs i 4 4 : Nat) : Int) = 4 := eq_of_beq d4
          omega
        have hok : seOK bs i := ⟨c1, hA, by rw [hnm]; exact r1, fun _ => s1, fun e => by omega⟩
        refine ⟨⟨i + 1, by omega, by omega, fun j h1 h2 h3 => ?_⟩, weak_of ⟨rfl, congrArg (fun x => AV.t (.int .u64 x)) (u64_nat (n := i + 1) (by omega)), trivial⟩ rfl, by show 65536 - (i + 1) < 65536 - i; omega⟩
        by_cases ej : j = i
        · exact ej ▸ hok
        · exact i3 j h1 (by omega) h3
      have d2 : ((hF bs i 4 4 : Nat) : Int) ≠ 2 := eqF d2
      refine br_intro (fun d4 => ?_) (fun d4 => ?_)
      · have d4 : ((hF bs i 4 4 : Nat) : Int) = 4 := eq_of_beq d4
        have hw : hF bs i 24 8 + hF bs i 32 8 ≤ bs.length := by
          rcases Nat.lt_or_ge bs.length (hF bs i 24 8 + hF bs i 32 8) with q | q
          · exact (hA ⟨by omega, by omega, by omega⟩).elim
          · exact q
        refine CallS.pure (relocs_r bs hb i hi16 hw) rfl ?_
        refine br_intro (fun s1 => ?_) (fun s1 => ?_)
        · have s1 := of_decide_eq_false (nb s1)
          exact And.intro (bno (nofail (fun hp => s1 (hp.2.2.2.2 (by omega))))) rfl
        have s1 := of_decide_eq_true (nb' s1)
        have hok : seOK bs i := ⟨c1, hA, by rw [hnm]; exact r1, fun e => by omega, fun _ => s1⟩
        refine ⟨⟨i + 1, by omega, by omega, fun j h1 h2 h3 => ?_⟩, weak_of ⟨rfl, congrArg (fun x => AV.t (.int .u64 x)) (u64_nat (n := i + 1) (by omega)), trivial⟩ rfl, by show 65536 - (i + 1) < 65536 - i; omega⟩
        by_cases ej : j = i
        · exact ej ▸ hok
        · exact i3 j h1 (by omega) h3
      · have d4 : ((hF bs i 4 4 : Nat) : Int) ≠ 4 := eqF d4
        have hok : seOK bs i := ⟨c1, hA, by rw [hnm]; exact r1, fun e => by omega, fun e => by omega⟩
        refine ⟨⟨i + 1, by omega, by omega, fun j h1 h2 h3 => ?_⟩, weak_of ⟨rfl, congrArg (fun x => AV.t (.int .u64 x)) (u64_nat (n := i + 1) (by omega)), trivial⟩ rfl, by show 65536 - (i + 1) < 65536 - i; omega⟩
        by_cases ej : j = i
        · exact ej ▸ hok
        · exact i3 j h1 (by omega) h3
  | nil =>
    have hTx : ∀ a : Nat, a < 18446744073709551616 → Runs Tryd.prog 73 [.nils, .int .u64 (a : Int)] (.t (.bool (decide (tx [] a)))) := fun a ha => text_r .nil (by simp) ha
    refine Runs.of_call ?_ rfl
    refine CallS.of_fn tab_ok reg_ok Tryd.func46 rfl rfl ?_
    refine loop_on (fun i : Nat => 1 ≤ i ∧ i ≤ 65536 ∧ ∀ j, 1 ≤ j → j < i → j < gN bs 60 2 → seOK bs j) (fun i => ⟨[(0, .t (.vec 1 (U bs))), (3, .t (.int .u64 (i : Int)))], []⟩) (fun i => 65536 - i) 1 ⟨by omega, by omega, fun j h1 h2 => by omega⟩ (weak_of ⟨rfl, rfl, trivial⟩ rfl) (fun i hi => ?_)
    obtain ⟨i1, i2, i3⟩ := hi
    refine CallS.pure (num_r hx hb (a := 60) (n := 2) (by omega) (by omega)) rfl ?_
    refine br_intro (fun h => ?_) (fun h => ?_)
    rotate_left
    · have h : ¬ (i : Int) < ((gN bs 60 2 : Nat) : Int) := of_decide_eq_false h
      exact And.intro (byes (fun j h1 h2 => i3 j h1 (by omega) h2)) rfl
    have h : (i : Int) < ((gN bs 60 2 : Nat) : Int) := of_decide_eq_true h
    have hi16 : i < 65536 := by omega
    have l48 := hF_lt8 bs i 48
    have l24 := hF_lt8 bs i 24
    have l32 := hF_lt8 bs i 32
    have l0 := hF_lt4 bs i 0
    have nofail : ¬ seOK bs i → ¬ seP bs := fun hn hp => hn (hp i (by omega) (by omega))
    obtain ⟨pb, hPw, hpb⟩ := power_r (n := hF bs i 48 8) l48
    have hIn := in_r (l := bs.length) (a := hF bs i 24 8) (n := hF bs i 32 8) hb l24 l32
    rw [← U_len bs] at hIn
    refine CallS.pure (header_r bs hb i hi16) rfl ?_
    refine CallS.pure (field_r bs hb i 4 4 (by omega)) rfl ?_
    refine CallS.pure (field_r bs hb i 48 8 (by omega)) rfl ?_
    refine CallS.pure hPw rfl ?_
    refine br_intro (fun c1 => ?_) (fun c1 => ?_)
    · have c1 : pb = false := nb c1
      exact And.intro (bno (nofail (fun hp => by rw [hpb.2 hp.1] at c1; cases c1))) rfl
    have c1 : pw (hF bs i 48 8) := hpb.1 (nb' c1)
    refine br_intro (fun c2 => ?_) (fun c2 => ?_)
    · have c2 : ((hF bs i 4 4 : Nat) : Int) ≠ 0 := neT c2
      refine br_intro (fun c3 => ?_) (fun c3 => ?_)
      · have c3 : ((hF bs i 4 4 : Nat) : Int) ≠ 8 := neT c3
        refine CallS.pure (field_r bs hb i 24 8 (by omega)) rfl ?_
        refine CallS.pure (field_r bs hb i 32 8 (by omega)) rfl ?_
        refine CallS.pure hIn rfl ?_
        refine br_intro (fun c4 => ?_) (fun c4 => ?_)
        · have c4 := of_decide_eq_false (nb c4)
          rw [U_len] at c4
          exact And.intro (bno (nofail (fun hp => hp.2.1 ⟨by omega, by omega, c4⟩))) rfl
        have c4 := of_decide_eq_true (nb' c4)
        rw [U_len] at c4
        have hA : ¬ (hF bs i 4 4 ≠ 0 ∧ hF bs i 4 4 ≠ 8 ∧ ¬ hF bs i 24 8 + hF bs i 32 8 ≤ bs.length) := fun hh => hh.2.2 c4
        refine CallS.pure (num_r hx hb (a := 62) (n := 2) (by omega) (by omega)) rfl ?_
        refine CallS.pure hPa rfl ?_
        refine CallS.pure (field0_r bs hb i 4 (by omega)) rfl ?_
        refine CallS.pure (hTx (hF bs i 0 4) (by omega)) rfl ?_
        refine br_intro (fun r1 => ?_) (fun r1 => ?_)
        · have r1 := of_decide_eq_false (nb r1)
          exact And.intro (bno (nofail (fun hp => r1 (by have := hp.2.2.1; rw [hnm] at this; exact this)))) rfl
        have r1 := of_decide_eq_true (nb' r1)
        refine br_intro (fun d2 => ?_) (fun d2 => ?_)
        · have d2 : ((hF bs i 4 4 : Nat) : Int) = 2 := eq_of_beq d2
          have hw : hF bs i 24 8 + hF bs i 32 8 ≤ bs.length := by
            rcases Nat.lt_or_ge bs.length (hF bs i 24 8 + hF bs i 32 8) with q | q
            · exact (hA ⟨by omega, by omega, by omega⟩).elim
            · exact q
          refine CallS.pure (symbols_r bs hb i hi16 hw) rfl ?_
          refine br_intro (fun s1 => ?_) (fun s1 => ?_)
          · have s1 := of_decide_eq_false (nb s1)
            exact And.intro (bno (nofail (fun hp => s1 (hp.2.2.2.1 (by omega))))) rfl
          have s1 := of_decide_eq_true (nb' s1)
          refine br_intro (fun d4 => ?_) (fun d4 => ?_)
          · have d4 : ((hF bs i 4 4 : Nat) : Int) = 4 := eq_of_beq d4
            omega
          have hok : seOK bs i := ⟨c1, hA, by rw [hnm]; exact r1, fun _ => s1, fun e => by omega⟩
          refine ⟨⟨i + 1, by omega, by omega, fun j h1 h2 h3 => ?_⟩, weak_of ⟨rfl, congrArg (fun x => AV.t (.int .u64 x)) (u64_nat (n := i + 1) (by omega)), trivial⟩ rfl, by show 65536 - (i + 1) < 65536 - i; omega⟩
          by_cases ej : j = i
          · exact ej ▸ hok
          · exact i3 j h1 (by omega) h3
        have d2 : ((hF bs i 4 4 : Nat) : Int) ≠ 2 := eqF d2
        refine br_intro (fun d4 => ?_) (fun d4 => ?_)
        · have d4 : ((hF bs i 4 4 : Nat) : Int) = 4 := eq_of_beq d4
          have hw : hF bs i 24 8 + hF bs i 32 8 ≤ bs.length := by
            rcases Nat.lt_or_ge bs.length (hF bs i 24 8 + hF bs i 32 8) with q | q
            · exact (hA ⟨by omega, by omega, by omega⟩).elim
            · exact q
          refine CallS.pure (relocs_r bs hb i hi16 hw) rfl ?_
          refine br_intro (fun s1 => ?_) (fun s1 => ?_)
          · have s1 := of_decide_eq_false (nb s1)
            exact And.intro (bno (nofail (fun hp => s1 (hp.2.2.2.2 (by omega))))) rfl
          have s1 := of_decide_eq_true (nb' s1)
          have hok : seOK bs i := ⟨c1, hA, by rw [hnm]; exact r1, fun e => by omega, fun _ => s1⟩
          refine ⟨⟨i + 1, by omega, by omega, fun j h1 h2 h3 => ?_⟩, weak_of ⟨rfl, congrArg (fun x => AV.t (.int .u64 x)) (u64_nat (n := i + 1) (by omega)), trivial⟩ rfl, by show 65536 - (i + 1) < 65536 - i; omega⟩
          by_cases ej : j = i
          · exact ej ▸ hok
          · exact i3 j h1 (by omega) h3
        · have d4 : ((hF bs i 4 4 : Nat) : Int) ≠ 4 := eqF d4
          have hok : seOK bs i := ⟨c1, hA, by rw [hnm]; exact r1, fun e => by omega, fun e => by omega⟩
          refine ⟨⟨i + 1, by omega, by omega, fun j h1 h2 h3 => ?_⟩, weak_of ⟨rfl, congrArg (fun x => AV.t (.int .u64 x)) (u64_nat (n := i + 1) (by omega)), trivial⟩ rfl, by show 65536 - (i + 1) < 65536 - i; omega⟩
          by_cases ej : j = i
          · exact ej ▸ hok
          · exact i3 j h1 (by omega) h3
      · have c3 : ((hF bs i 4 4 : Nat) : Int) = 8 := neB c3
        have hA : ¬ (hF bs i 4 4 ≠ 0 ∧ hF bs i 4 4 ≠ 8 ∧ ¬ hF bs i 24 8 + hF bs i 32 8 ≤ bs.length) := fun hh => hh.2.1 (by omega)
        refine CallS.pure (num_r hx hb (a := 62) (n := 2) (by omega) (by omega)) rfl ?_
        refine CallS.pure hPa rfl ?_
        refine CallS.pure (field0_r bs hb i 4 (by omega)) rfl ?_
        refine CallS.pure (hTx (hF bs i 0 4) (by omega)) rfl ?_
        refine br_intro (fun r1 => ?_) (fun r1 => ?_)
        · have r1 := of_decide_eq_false (nb r1)
          exact And.intro (bno (nofail (fun hp => r1 (by have := hp.2.2.1; rw [hnm] at this; exact this)))) rfl
        have r1 := of_decide_eq_true (nb' r1)
        refine br_intro (fun d2 => ?_) (fun d2 => ?_)
        · have d2 : ((hF bs i 4 4 : Nat) : Int) = 2 := eq_of_beq d2
          have hw : hF bs i 24 8 + hF bs i 32 8 ≤ bs.length := by
            rcases Nat.lt_or_ge bs.length (hF bs i 24 8 + hF bs i 32 8) with q | q
            · exact (hA ⟨by omega, by omega, by omega⟩).elim
            · exact q
          refine CallS.pure (symbols_r bs hb i hi16 hw) rfl ?_
          refine br_intro (fun s1 => ?_) (fun s1 => ?_)
          · have s1 := of_decide_eq_false (nb s1)
            exact And.intro (bno (nofail (fun hp => s1 (hp.2.2.2.1 (by omega))))) rfl
          have s1 := of_decide_eq_true (nb' s1)
          refine br_intro (fun d4 => ?_) (fun d4 => ?_)
          · have d4 : ((hF bs i 4 4 : Nat) : Int) = 4 := eq_of_beq d4
            omega
          have hok : seOK bs i := ⟨c1, hA, by rw [hnm]; exact r1, fun _ => s1, fun e => by omega⟩
          refine ⟨⟨i + 1, by omega, by omega, fun j h1 h2 h3 => ?_⟩, weak_of ⟨rfl, congrArg (fun x => AV.t (.int .u64 x)) (u64_nat (n := i + 1) (by omega)), trivial⟩ rfl, by show 65536 - (i + 1) < 65536 - i; omega⟩
          by_cases ej : j = i
          · exact ej ▸ hok
          · exact i3 j h1 (by omega) h3
        have d2 : ((hF bs i 4 4 : Nat) : Int) ≠ 2 := eqF d2
        refine br_intro (fun d4 => ?_) (fun d4 => ?_)
        · have d4 : ((hF bs i 4 4 : Nat) : Int) = 4 := eq_of_beq d4
          have hw : hF bs i 24 8 + hF bs i 32 8 ≤ bs.length := by
            rcases Nat.lt_or_ge bs.length (hF bs i 24 8 + hF bs i 32 8) with q | q
            · exact (hA ⟨by omega, by omega, by omega⟩).elim
            · exact q
          refine CallS.pure (relocs_r bs hb i hi16 hw) rfl ?_
          refine br_intro (fun s1 => ?_) (fun s1 => ?_)
          · have s1 := of_decide_eq_false (nb s1)
            exact And.intro (bno (nofail (fun hp => s1 (hp.2.2.2.2 (by omega))))) rfl
          have s1 := of_decide_eq_true (nb' s1)
          have hok : seOK bs i := ⟨c1, hA, by rw [hnm]; exact r1, fun e => by omega, fun _ => s1⟩
          refine ⟨⟨i + 1, by omega, by omega, fun j h1 h2 h3 => ?_⟩, weak_of ⟨rfl, congrArg (fun x => AV.t (.int .u64 x)) (u64_nat (n := i + 1) (by omega)), trivial⟩ rfl, by show 65536 - (i + 1) < 65536 - i; omega⟩
          by_cases ej : j = i
          · exact ej ▸ hok
          · exact i3 j h1 (by omega) h3
        · have d4 : ((hF bs i 4 4 : Nat) : Int) ≠ 4 := eqF d4
          have hok : seOK bs i := ⟨c1, hA, by rw [hnm]; exact r1, fun e => by omega, fun e => by omega⟩
          refine ⟨⟨i + 1, by omega, by omega, fun j h1 h2 h3 => ?_⟩, weak_of ⟨rfl, congrArg (fun x => AV.t (.int .u64 x)) (u64_nat (n := i + 1) (by omega)), trivial⟩ rfl, by show 65536 - (i + 1) < 65536 - i; omega⟩
          by_cases ej : j = i
          · exact ej ▸ hok
          · exact i3 j h1 (by omega) h3
    · have c2 : ((hF bs i 4 4 : Nat) : Int) = 0 := neB c2
      have hA : ¬ (hF bs i 4 4 ≠ 0 ∧ hF bs i 4 4 ≠ 8 ∧ ¬ hF bs i 24 8 + hF bs i 32 8 ≤ bs.length) := fun hh => hh.1 (by omega)
      refine CallS.pure (num_r hx hb (a := 62) (n := 2) (by omega) (by omega)) rfl ?_
      refine CallS.pure hPa rfl ?_
      refine CallS.pure (field0_r bs hb i 4 (by omega)) rfl ?_
      refine CallS.pure (hTx (hF bs i 0 4) (by omega)) rfl ?_
      refine br_intro (fun r1 => ?_) (fun r1 => ?_)
      · have r1 := of_decide_eq_false (nb r1)
        exact And.intro (bno (nofail (fun hp => r1 (by have := hp.2.2.1; rw [hnm] at this; exact this)))) rfl
      have r1 := of_decide_eq_true (nb' r1)
      refine br_intro (fun d2 => ?_) (fun d2 => ?_)
      · have d2 : ((hF bs i 4 4 : Nat) : Int) = 2 := eq_of_beq d2
        have hw : hF bs i 24 8 + hF bs i 32 8 ≤ bs.length := by
          rcases Nat.lt_or_ge bs.length (hF bs i 24 8 + hF bs i 32 8) with q | q
          · exact (hA ⟨by omega, by omega, by omega⟩).elim
          · exact q
        refine CallS.pure (symbols_r bs hb i hi16 hw) rfl ?_
        refine br_intro (fun s1 => ?_) (fun s1 => ?_)
        · have s1 := of_decide_eq_false (nb s1)
          exact And.intro (bno (nofail (fun hp => s1 (hp.2.2.2.1 (by omega))))) rfl
        have s1 := of_decide_eq_true (nb' s1)
        refine br_intro (fun d4 => ?_) (fun d4 => ?_)
        · have d4 : ((hF bs i 4 4 : Nat) : Int) = 4 := eq_of_beq d4
          omega
        have hok : seOK bs i := ⟨c1, hA, by rw [hnm]; exact r1, fun _ => s1, fun e => by omega⟩
        refine ⟨⟨i + 1, by omega, by omega, fun j h1 h2 h3 => ?_⟩, weak_of ⟨rfl, congrArg (fun x => AV.t (.int .u64 x)) (u64_nat (n := i + 1) (by omega)), trivial⟩ rfl, by show 65536 - (i + 1) < 65536 - i; omega⟩
        by_cases ej : j = i
        · exact ej ▸ hok
        · exact i3 j h1 (by omega) h3
      have d2 : ((hF bs i 4 4 : Nat) : Int) ≠ 2 := eqF d2
      refine br_intro (fun d4 => ?_) (fun d4 => ?_)
      · have d4 : ((hF bs i 4 4 : Nat) : Int) = 4 := eq_of_beq d4
        have hw : hF bs i 24 8 + hF bs i 32 8 ≤ bs.length := by
          rcases Nat.lt_or_ge bs.length (hF bs i 24 8 + hF bs i 32 8) with q | q
          · exact (hA ⟨by omega, by omega, by omega⟩).elim
          · exact q
        refine CallS.pure (relocs_r bs hb i hi16 hw) rfl ?_
        refine br_intro (fun s1 => ?_) (fun s1 => ?_)
        · have s1 := of_decide_eq_false (nb s1)
          exact And.intro (bno (nofail (fun hp => s1 (hp.2.2.2.2 (by omega))))) rfl
        have s1 := of_decide_eq_true (nb' s1)
        have hok : seOK bs i := ⟨c1, hA, by rw [hnm]; exact r1, fun e => by omega, fun _ => s1⟩
        refine ⟨⟨i + 1, by omega, by omega, fun j h1 h2 h3 => ?_⟩, weak_of ⟨rfl, congrArg (fun x => AV.t (.int .u64 x)) (u64_nat (n := i + 1) (by omega)), trivial⟩ rfl, by show 65536 - (i + 1) < 65536 - i; omega⟩
        by_cases ej : j = i
        · exact ej ▸ hok
        · exact i3 j h1 (by omega) h3
      · have d4 : ((hF bs i 4 4 : Nat) : Int) ≠ 4 := eqF d4
        have hok : seOK bs i := ⟨c1, hA, by rw [hnm]; exact r1, fun e => by omega, fun e => by omega⟩
        refine ⟨⟨i + 1, by omega, by omega, fun j h1 h2 h3 => ?_⟩, weak_of ⟨rfl, congrArg (fun x => AV.t (.int .u64 x)) (u64_nat (n := i + 1) (by omega)), trivial⟩ rfl, by show 65536 - (i + 1) < 65536 - i; omega⟩
        by_cases ej : j = i
        · exact ej ▸ hok
        · exact i3 j h1 (by omega) h3

/-! ### The answers -/

open Classical in
noncomputable def answer (bs : List UInt8) : Int := if ¬ hdP bs then 191 else if ¬ tbP bs then 192 else if sgB bs = false then 193 else if ¬ seP bs then 194 else 0

theorem tb_ok {bs : List UInt8} (h : tbP bs) : gN bs 60 2 = 0 ∨ gN bs 62 2 < gN bs 60 2 := h.2.2

theorem check_g (bs : List UInt8) (hb : bs.length ≤ 140737488351232) : Runs Tryd.prog 17 [.vec 1 (U bs)] (.t (.int .i64 (answer bs))) := by
  refine Runs.of_call ?_ rfl
  refine CallS.of_fn tab_ok reg_ok Tryd.func17 rfl rfl ?_
  unfold answer
  refine CallS.pure (head_g bs hb) rfl ?_
  refine br_intro (fun c => ?_) (fun c => ?_)
  · rw [if_pos (of_decide_eq_false (nb c))]
    exact And.intro rfl rfl
  have c := of_decide_eq_true (nb' c)
  rw [if_neg (fun h => h c)]
  refine CallS.pure (tables_g bs hb) rfl ?_
  refine br_intro (fun c2 => ?_) (fun c2 => ?_)
  · rw [if_pos (of_decide_eq_false (nb c2))]
    exact And.intro rfl rfl
  have c2 := of_decide_eq_true (nb' c2)
  rw [if_neg (fun h => h c2)]
  refine CallS.pure (segments_g bs hb) rfl ?_
  refine br_intro (fun c3 => ?_) (fun c3 => ?_)
  · rw [if_pos (nb c3)]
    exact And.intro rfl rfl
  have c3 := nb' c3
  rw [if_neg (by rw [c3]; simp)]
  refine CallS.pure (right_g bs hb (tb_ok c2)) rfl ?_
  refine br_intro (fun c4 => ?_) (fun c4 => ?_)
  · rw [if_pos (of_decide_eq_false (nb c4))]
    exact And.intro rfl rfl
  have c4 := of_decide_eq_true (nb' c4)
  rw [if_neg (fun h => h c4)]
  exact And.intro rfl rfl

theorem check_r (bs : List UInt8) (hb : bs.length ≤ 140737488351232) : Runs Tryd.prog 18 [.vec 1 (U bs)] (.t (.int .i64 (answer bs))) := by
  refine Runs.of_call ?_ rfl
  refine CallS.of_fn tab_ok reg_ok Tryd.func18 rfl rfl ?_
  unfold answer
  refine CallS.pure (head_r bs hb) rfl ?_
  refine br_intro (fun c => ?_) (fun c => ?_)
  · rw [if_pos (of_decide_eq_false (nb c))]
    exact And.intro rfl rfl
  have c := of_decide_eq_true (nb' c)
  rw [if_neg (fun h => h c)]
  refine CallS.pure (tables_r bs hb) rfl ?_
  refine br_intro (fun c2 => ?_) (fun c2 => ?_)
  · rw [if_pos (of_decide_eq_false (nb c2))]
    exact And.intro rfl rfl
  have c2 := of_decide_eq_true (nb' c2)
  rw [if_neg (fun h => h c2)]
  refine CallS.pure (segments_r bs hb) rfl ?_
  refine br_intro (fun c3 => ?_) (fun c3 => ?_)
  · rw [if_pos (nb c3)]
    exact And.intro rfl rfl
  have c3 := nb' c3
  rw [if_neg (by rw [c3]; simp)]
  refine CallS.pure (sections_r bs hb (tb_ok c2)) rfl ?_
  refine br_intro (fun c4 => ?_) (fun c4 => ?_)
  · rw [if_pos (of_decide_eq_false (nb c4))]
    exact And.intro rfl rfl
  have c4 := of_decide_eq_true (nb' c4)
  rw [if_neg (fun h => h c4)]
  exact And.intro rfl rfl

end Go.Proofs.YthpkehhghcpolaaDoor
