/-
  The segments of a file: the document's function.
-/
import Derived.Test.YthpkehhghcpolaaDoorCk5
namespace Go.Proofs.YthpkehhghcpolaaDoor
open Go.IntWalk
set_option maxRecDepth 100000
set_option linter.unusedVariables false
set_option linter.unusedSimpArgs false

def ordSeg : Ord := (.op 0 [] (.op 1 [0] (.op 2 [] (.op 3 [] (.op 4 [] (.op 5 [] (.op 6 [] (.op 7 [] (.op 8 [] (.op 9 [8, 7] (.op 10 [9, 8, 7] (.op 11 [] (.op 12 [] (.op 13 [] (.op 14 [] (.op 15 [] (.op 16 [] (.op 17 [] (.op 18 [] (.op 19 [] (.op 20 [] (.op 21 [] (.op 22 [] (.op 23 [] (.op 24 [] (.op 25 [24] (.op 26 [] (.op 27 [] (.op 28 [] (.op 29 [] (.op 30 [] (.op 31 [30] (.op 32 [] (.op 33 [32, 31, 30] (.op 34 [] (.op 35 [] (.op 36 [] (.op 37 [] (.op 38 [] (.op 39 [] (.op 40 [] (.op 41 [] (.op 42 [] (.op 43 [] (.op 44 [] (.op 45 [] (.op 46 [45] (.op 47 [] (.op 48 [47, 46, 45] (.op 49 [48, 47, 46, 45] (.op 50 [47, 46, 45] (.op 51 [] (.op 52 [] (.op 53 [] .nil))))))))))))))))))))))))))))))))))))))))))))))))))))))

set_option maxHeartbeats 4000000 in
theorem segments_r (bs : List UInt8) (hb : bs.length ≤ 140737488351232) : Runs Tryd.prog 45 [.vec 1 (U bs)] (.t (.bool (sgB bs))) := by
  have hx : BX (.vec 1 (U bs)) bs := .vec bs _ rfl
  have hcnt := g2_lt bs 56
  refine Runs.of_call ?_ rfl
  refine CallS.of_fn tab_ok reg_ok Tryd.func45 rfl rfl ?_
  refine loop_on (fun s : Nat × Nat × Nat => s.1 ≤ gN bs 56 2 ∧ s.2.2 ≤ s.1 ∧ s.2.1 < 18446744073709551616 ∧ segS bs (gN bs 56 2 - s.1) s.1 s.2.1 s.2.2 = sgB bs)
    (fun s => ⟨[(0, .t (.vec 1 (U bs))), (3, .t (.int .i64 ((s.2.2 : Nat) : Int))), (4, .t (.int .u64 ((s.2.1 : Nat) : Int))), (5, .t (.int .u64 ((s.1 : Nat) : Int)))], []⟩)
    (fun s => gN bs 56 2 - s.1) (0, 0, 0) ⟨Nat.zero_le _, Nat.le_refl _, by decide, rfl⟩ (weak_of ⟨rfl, rfl, rfl, rfl, trivial⟩ rfl) (fun s hi => ?_)
  obtain ⟨i, nx, tl⟩ := s
  obtain ⟨h1, h2, h3, hR⟩ := hi
  simp only at h1 h2 h3 hR
  refine CallS.pure (num_r hx hb (a := 56) (n := 2) (by omega) (by omega)) rfl ?_
  refine br_intro (fun h => ?_) (fun h => ?_)
  rotate_left
  · have h : ¬ (i : Int) < ((gN bs 56 2 : Nat) : Int) := of_decide_eq_false h
    rw [show gN bs 56 2 - i = 0 by omega, segS] at hR
    have e : decide ((tl : Int) < 2) = sgB bs := by rw [← hR]; exact decide_eq_decide.2 (by omega)
    exact And.intro (congrArg (fun b => some (T.bool b)) e) rfl
  have h : (i : Int) < ((gN bs 56 2 : Nat) : Int) := of_decide_eq_true h
  rw [show gN bs 56 2 - i = (gN bs 56 2 - (i + 1)) + 1 by omega, segS] at hR
  have hH := sH_eq bs i (by omega)
  have hN0 := num_r hx hb (a := sH bs i) (n := 4) (sH_lt _ _) (by omega)
  rw [← sF0, ← hH] at hN0
  have hN : ∀ (d n : Nat), 1 ≤ n ∧ n ≤ 8 → Runs Tryd.prog 69 [.vec 1 (U bs), .int .u64 (IntKind.u64.wrap (IntKind.u64.wrap (((gN bs 32 8 : Nat) : Int) + IntKind.u64.wrap (56 * (i : Int))) + (d : Int))), .int .i64 (n : Int)] (.t (.int .u64 ((sF bs i d n : Nat) : Int))) := fun d n hn => by
    have := num_r hx hb (a := (sH bs i + d) % 18446744073709551616) (n := n) (Nat.mod_lt _ (by omega)) hn
    rw [← u64_mod, Int.natCast_add, ← hH] at this
    exact this
  have l8 := sF_lt8 bs i 8
  have l16 := sF_lt8 bs i 16
  have l32 := sF_lt8 bs i 32
  have l40 := sF_lt8 bs i 40
  have l48 := sF_lt8 bs i 48
  have l4 := sF_lt4 bs i 4
  have l0 := sF_lt4 bs i 0
  have nextI : IntKind.u64.wrap ((i : Int) + 1) = ((i + 1 : Nat) : Int) := u64_nat (n := i + 1) (by omega)
  have hIn := in_r (l := bs.length) (a := sF bs i 8 8) (n := sF bs i 32 8) hb l8 l32
  rw [← U_len bs] at hIn
  refine CallS.pure (num_r hx hb (a := 32) (n := 8) (by omega) (by omega)) rfl ?_
  refine CallS.pure hN0 rfl ?_
  refine br_intro (fun k1 => ?_) (fun k1 => ?_)
  · have k1 := neT k1
    refine br_intro (fun k7 => ?_) (fun k7 => ?_)
    · have k7 : ((sF bs i 0 4 : Nat) : Int) ≠ 7 := neT k7
      rw [if_pos ⟨by omega, by omega⟩] at hR
      exact ⟨⟨(i + 1, nx, tl), by show i + 1 ≤ _; omega, by show tl ≤ i + 1; omega, h3, hR⟩, weak_of ⟨rfl, rfl, rfl, congrArg (fun x => AV.t (.int .u64 x)) nextI, trivial⟩ rfl, by show gN bs 56 2 - (i + 1) < gN bs 56 2 - i; omega⟩
    · have k7 : ((sF bs i 0 4 : Nat) : Int) = 7 := neB k7
      have hk : sF bs i 0 4 = 1 ∨ sF bs i 0 4 = 7 := .inr (by omega)
      rw [if_neg (by omega)] at hR
      refine CallS.pure (hN 8 8 (by omega)) rfl ?_
      refine CallS.pure (hN 16 8 (by omega)) rfl ?_
      refine CallS.pure (hN 32 8 (by omega)) rfl ?_
      refine CallS.pure (hN 40 8 (by omega)) rfl ?_
      refine CallS.pure (hN 48 8 (by omega)) rfl ?_
      refine draw_intro ordSeg (by decide +kernel) ?_
      refine br_intro (fun c1 => ?_) (fun c1 => ?_)
      · have c1 : ((sF bs i 40 8 : Nat) : Int) < ((sF bs i 32 8 : Nat) : Int) := of_decide_eq_true c1
        rw [if_pos (.inl (by omega))] at hR
        rw [← hR]
        refine And.intro (fun j hj => by cases hj) ?_
        refine And.intro (fun j hj => by cases hj) ?_
        exact And.intro rfl rfl
      have c1 : ¬ ((sF bs i 40 8 : Nat) : Int) < ((sF bs i 32 8 : Nat) : Int) := of_decide_eq_false c1
      refine br_intro (fun c2 => ?_) (fun c2 => ?_)
      · have c2 : ((sF bs i 32 8 : Nat) : Int) ≠ 0 := neT c2
        refine CallS.pure hIn rfl ?_
        refine And.intro (fun j hj => by cases hj) ?_
        refine br_intro (fun c3 => ?_) (fun c3 => ?_)
        · have c3 : (!decide (sF bs i 8 8 + sF bs i 32 8 ≤ (U bs).length)) = true := c3
          rw [U_len] at c3
          have c3 := of_decide_eq_false (nb c3)
          rw [if_pos (.inr (.inl ⟨by omega, c3⟩))] at hR
          rw [← hR]
          refine And.intro (fun j hj => by cases hj) ?_
          exact And.intro rfl rfl
        have c3 : (!decide (sF bs i 8 8 + sF bs i 32 8 ≤ (U bs).length)) = false := c3
        rw [U_len] at c3
        have c3 := of_decide_eq_true (nb' c3)
        have hA : ¬ (0 < sF bs i 32 8 ∧ ¬ sF bs i 8 8 + sF bs i 32 8 ≤ bs.length) := fun hh => hh.2 c3
        refine br_intro (fun c4 => ?_) (fun c4 => ?_)
        · have c4 : ((sF bs i 16 8 : Nat) : Int) > 9223372036854775808 := of_decide_eq_true c4
          rw [if_pos (.inr (.inr (.inl (by omega))))] at hR
          rw [← hR]
          refine And.intro (fun j hj => by cases hj) ?_
          exact And.intro rfl rfl
        have c4 : ¬ ((sF bs i 16 8 : Nat) : Int) > 9223372036854775808 := of_decide_eq_false c4
        refine br_intro (fun c5 => ?_) (fun c5 => ?_)
        · have c5 : ((sF bs i 40 8 : Nat) : Int) > 9223372036854775808 := of_decide_eq_true c5
          rw [if_pos (.inr (.inr (.inr (.inl (by omega)))))] at hR
          rw [← hR]
          refine And.intro (fun j hj => by cases hj) ?_
          exact And.intro rfl rfl
        have c5 : ¬ ((sF bs i 40 8 : Nat) : Int) > 9223372036854775808 := of_decide_eq_false c5
        have es : IntKind.u64.wrap (((sF bs i 16 8 : Nat) : Int) + ((sF bs i 40 8 : Nat) : Int)) = (((sF bs i 16 8 + sF bs i 40 8) % 18446744073709551616 : Nat) : Int) := by rw [← Int.natCast_add, u64_mod]
        refine br_intro (fun c5a => ?_) (fun c5a => ?_)
        · have c5a : IntKind.u64.wrap (((sF bs i 16 8 : Nat) : Int) + ((sF bs i 40 8 : Nat) : Int)) > 9223372036854775808 := of_decide_eq_true c5a
          rw [es] at c5a
          rw [if_pos (.inr (.inr (.inr (.inl (by omega)))))] at hR
          rw [← hR]
          refine And.intro (fun j hj => by cases hj) ?_
          exact And.intro rfl rfl
        have c5a : ¬ IntKind.u64.wrap (((sF bs i 16 8 : Nat) : Int) + ((sF bs i 40 8 : Nat) : Int)) > 9223372036854775808 := of_decide_eq_false c5a
        rw [es] at c5a
        refine br_intro (fun c5b => ?_) (fun c5b => ?_)
        · have c5b : IntKind.u64.wrap (((sF bs i 16 8 : Nat) : Int) + ((sF bs i 40 8 : Nat) : Int)) < ((sF bs i 16 8 : Nat) : Int) := of_decide_eq_true c5b
          rw [es] at c5b
          rw [if_pos (.inr (.inr (.inr (.inl (by omega)))))] at hR
          rw [← hR]
          refine And.intro (fun j hj => by cases hj) ?_
          exact And.intro rfl rfl
        have c5b : ¬ IntKind.u64.wrap (((sF bs i 16 8 : Nat) : Int) + ((sF bs i 40 8 : Nat) : Int)) < ((sF bs i 16 8 : Nat) : Int) := of_decide_eq_false c5b
        rw [es] at c5b
        obtain ⟨pb, hPw, hpb⟩ := power_r (n := sF bs i 48 8) l48
        refine CallS.pure hPw rfl ?_
        refine And.intro (fun j hj => by cases hj) ?_
        refine br_intro (fun c6 => ?_) (fun c6 => ?_)
        · have c6 : (!pb) = true := c6
          rw [if_pos (.inr (.inr (.inr (.inr (.inl (fun hp => by have := hpb.2 hp; rw [this] at c6; cases c6))))))] at hR
          rw [← hR]
          exact And.intro rfl rfl
        have c6 : (!pb) = false := c6
        have c6 : pw (sF bs i 48 8) := hpb.1 (nb' c6)
        refine br_intro (fun c7 => ?_) (fun c7 => ?_)
        · have c7 : ((sF bs i 48 8 : Nat) : Int) > 1 := of_decide_eq_true c7
          have hnz : (!decide (((sF bs i 48 8 : Nat) : Int) = 0)) = true := by rw [decide_eq_false (by omega)]; rfl
          refine ck_intro hnz ?_
          refine ck_intro hnz ?_
          have em : ∀ a m : Nat, (a : Int).tmod (m : Int) = ((a % m : Nat) : Int) := fun a m => (Int.ofNat_tmod a m).symm
          refine br_intro (fun c8 => ?_) (fun c8 => ?_)
          · have c8 : ((sF bs i 8 8 : Nat) : Int).tmod ((sF bs i 48 8 : Nat) : Int) ≠ ((sF bs i 16 8 : Nat) : Int).tmod ((sF bs i 48 8 : Nat) : Int) := neT c8
            rw [em, em] at c8
            rw [if_pos (.inr (.inr (.inr (.inr (.inr ⟨by omega, fun e => c8 (by rw [e])⟩)))))] at hR
            rw [← hR]
            exact And.intro rfl rfl
          have c8 : ((sF bs i 8 8 : Nat) : Int).tmod ((sF bs i 48 8 : Nat) : Int) = ((sF bs i 16 8 : Nat) : Int).tmod ((sF bs i 48 8 : Nat) : Int) := neB c8
          rw [em, em] at c8
          have hbad : ¬ badP bs i := by
            rintro (q | q | q | q | q | q)
            · omega
            · exact hA q
            · omega
            · omega
            · exact q c6
            · exact q.2 (by omega)
          rw [if_neg hbad] at hR
          refine br_intro (fun d1 => ?_) (fun d1 => ?_)
          · have d1 : ((sF bs i 0 4 : Nat) : Int) = 7 := eq_of_beq d1
            rw [if_pos (show sF bs i 0 4 = 7 by omega)] at hR
            exact ⟨⟨(i + 1, nx, tl + 1), by show i + 1 ≤ _; omega, by show tl + 1 ≤ i + 1; omega, h3, hR⟩, weak_of ⟨rfl, congrArg (fun x => AV.t (.int .i64 x)) (i64_nat (n := tl + 1) (by omega)), rfl, congrArg (fun x => AV.t (.int .u64 x)) nextI, trivial⟩ rfl, by show gN bs 56 2 - (i + 1) < gN bs 56 2 - i; omega⟩
          have d1 : ((sF bs i 0 4 : Nat) : Int) ≠ 7 := eqF d1
          rw [if_neg (show ¬ sF bs i 0 4 = 7 by omega)] at hR
          refine CallS.pure (hN 4 4 (by omega)) rfl ?_
          refine br_intro (fun d2 => ?_) (fun d2 => ?_)
          · have d2 : ((sF bs i 4 4 : Nat) : Int) > 7 := of_decide_eq_true d2
            rw [if_pos (.inl (by omega))] at hR
            rw [← hR]
            exact And.intro rfl rfl
          have d2 : ¬ ((sF bs i 4 4 : Nat) : Int) > 7 := of_decide_eq_false d2
          refine br_intro (fun d3 => ?_) (fun d3 => ?_)
          · have d3 : ((sF bs i 16 8 : Nat) : Int) < (nx : Int) := of_decide_eq_true d3
            rw [if_pos (.inr (by omega))] at hR
            rw [← hR]
            exact And.intro rfl rfl
          have d3 : ¬ ((sF bs i 16 8 : Nat) : Int) < (nx : Int) := of_decide_eq_false d3
          rw [if_neg (by omega)] at hR
          have hsz : sF bs i 16 8 + sF bs i 40 8 < 18446744073709551616 := by
            have q : ¬ (9223372036854775808 < sF bs i 16 8) := fun q => hbad (.inr (.inr (.inl q)))
            have q2 : ¬ (9223372036854775808 - sF bs i 16 8 < sF bs i 40 8) := fun q => hbad (.inr (.inr (.inr (.inl q))))
            omega
          exact ⟨⟨(i + 1, sF bs i 16 8 + sF bs i 40 8, tl), by show i + 1 ≤ _; omega, by show tl ≤ i + 1; omega, hsz, hR⟩, weak_of ⟨rfl, rfl, congrArg (fun x => AV.t (.int .u64 x)) (u64_nat (n := sF bs i 16 8 + sF bs i 40 8) hsz), congrArg (fun x => AV.t (.int .u64 x)) nextI, trivial⟩ rfl, by show gN bs 56 2 - (i + 1) < gN bs 56 2 - i; omega⟩
        · have c7 : ¬ ((sF bs i 48 8 : Nat) : Int) > 1 := of_decide_eq_false c7
          have hbad : ¬ badP bs i := by
            rintro (q | q | q | q | q | q)
            · omega
            · exact hA q
            · omega
            · omega
            · exact q c6
            · have := q.1; omega
          rw [if_neg hbad] at hR
          refine br_intro (fun d1 => ?_) (fun d1 => ?_)
          · have d1 : ((sF bs i 0 4 : Nat) : Int) = 7 := eq_of_beq d1
            rw [if_pos (show sF bs i 0 4 = 7 by omega)] at hR
            exact ⟨⟨(i + 1, nx, tl + 1), by show i + 1 ≤ _; omega, by show tl + 1 ≤ i + 1; omega, h3, hR⟩, weak_of ⟨rfl, congrArg (fun x => AV.t (.int .i64 x)) (i64_nat (n := tl + 1) (by omega)), rfl, congrArg (fun x => AV.t (.int .u64 x)) nextI, trivial⟩ rfl, by show gN bs 56 2 - (i + 1) < gN bs 56 2 - i; omega⟩
          have d1 : ((sF bs i 0 4 : Nat) : Int) ≠ 7 := eqF d1
          rw [if_neg (show ¬ sF bs i 0 4 = 7 by omega)] at hR
          refine CallS.pure (hN 4 4 (by omega)) rfl ?_
          refine br_intro (fun d2 => ?_) (fun d2 => ?_)
          · have d2 : ((sF bs i 4 4 : Nat) : Int) > 7 := of_decide_eq_true d2
            rw [if_pos (.inl (by omega))] at hR
            rw [← hR]
            exact And.intro rfl rfl
          have d2 : ¬ ((sF bs i 4 4 : Nat) : Int) > 7 := of_decide_eq_false d2
          refine br_intro (fun d3 => ?_) (fun d3 => ?_)
          · have d3 : ((sF bs i 16 8 : Nat) : Int) < (nx : Int) := of_decide_eq_true d3
            rw [if_pos (.inr (by omega))] at hR
            rw [← hR]
            exact And.intro rfl rfl
          have d3 : ¬ ((sF bs i 16 8 : Nat) : Int) < (nx : Int) := of_decide_eq_false d3
          rw [if_neg (by omega)] at hR
          have hsz : sF bs i 16 8 + sF bs i 40 8 < 18446744073709551616 := by
            have q : ¬ (9223372036854775808 < sF bs i 16 8) := fun q => hbad (.inr (.inr (.inl q)))
            have q2 : ¬ (9223372036854775808 - sF bs i 16 8 < sF bs i 40 8) := fun q => hbad (.inr (.inr (.inr (.inl q))))
            omega
          exact ⟨⟨(i + 1, sF bs i 16 8 + sF bs i 40 8, tl), by show i + 1 ≤ _; omega, by show tl ≤ i + 1; omega, hsz, hR⟩, weak_of ⟨rfl, rfl, congrArg (fun x => AV.t (.int .u64 x)) (u64_nat (n := sF bs i 16 8 + sF bs i 40 8) hsz), congrArg (fun x => AV.t (.int .u64 x)) nextI, trivial⟩ rfl, by show gN bs 56 2 - (i + 1) < gN bs 56 2 - i; omega⟩
      · have c2 : ((sF bs i 32 8 : Nat) : Int) = 0 := neB c2
        refine And.intro (fun j hj => by cases hj) ?_
        have hA : ¬ (0 < sF bs i 32 8 ∧ ¬ sF bs i 8 8 + sF bs i 32 8 ≤ bs.length) := fun hh => by have := hh.1; omega
        refine br_intro (fun c4 => ?_) (fun c4 => ?_)
        · have c4 : ((sF bs i 16 8 : Nat) : Int) > 9223372036854775808 := of_decide_eq_true c4
          rw [if_pos (.inr (.inr (.inl (by omega))))] at hR
          rw [← hR]
          refine And.intro (fun j hj => by cases hj) ?_
          exact And.intro rfl rfl
        have c4 : ¬ ((sF bs i 16 8 : Nat) : Int) > 9223372036854775808 := of_decide_eq_false c4
        refine br_intro (fun c5 => ?_) (fun c5 => ?_)
        · have c5 : ((sF bs i 40 8 : Nat) : Int) > 9223372036854775808 := of_decide_eq_true c5
          rw [if_pos (.inr (.inr (.inr (.inl (by omega)))))] at hR
          rw [← hR]
          refine And.intro (fun j hj => by cases hj) ?_
          exact And.intro rfl rfl
        have c5 : ¬ ((sF bs i 40 8 : Nat) : Int) > 9223372036854775808 := of_decide_eq_false c5
        have es : IntKind.u64.wrap (((sF bs i 16 8 : Nat) : Int) + ((sF bs i 40 8 : Nat) : Int)) = (((sF bs i 16 8 + sF bs i 40 8) % 18446744073709551616 : Nat) : Int) := by rw [← Int.natCast_add, u64_mod]
        refine br_intro (fun c5a => ?_) (fun c5a => ?_)
        · have c5a : IntKind.u64.wrap (((sF bs i 16 8 : Nat) : Int) + ((sF bs i 40 8 : Nat) : Int)) > 9223372036854775808 := of_decide_eq_true c5a
          rw [es] at c5a
          rw [if_pos (.inr (.inr (.inr (.inl (by omega)))))] at hR
          rw [← hR]
          refine And.intro (fun j hj => by cases hj) ?_
          exact And.intro rfl rfl
        have c5a : ¬ IntKind.u64.wrap (((sF bs i 16 8 : Nat) : Int) + ((sF bs i 40 8 : Nat) : Int)) > 9223372036854775808 := of_decide_eq_false c5a
        rw [es] at c5a
        refine br_intro (fun c5b => ?_) (fun c5b => ?_)
        · have c5b : IntKind.u64.wrap (((sF bs i 16 8 : Nat) : Int) + ((sF bs i 40 8 : Nat) : Int)) < ((sF bs i 16 8 : Nat) : Int) := of_decide_eq_true c5b
          rw [es] at c5b
          rw [if_pos (.inr (.inr (.inr (.inl (by omega)))))] at hR
          rw [← hR]
          refine And.intro (fun j hj => by cases hj) ?_
          exact And.intro rfl rfl
        have c5b : ¬ IntKind.u64.wrap (((sF bs i 16 8 : Nat) : Int) + ((sF bs i 40 8 : Nat) : Int)) < ((sF bs i 16 8 : Nat) : Int) := of_decide_eq_false c5b
        rw [es] at c5b
        obtain ⟨pb, hPw, hpb⟩ := power_r (n := sF bs i 48 8) l48
        refine CallS.pure hPw rfl ?_
        refine And.intro (fun j hj => by cases hj) ?_
        refine br_intro (fun c6 => ?_) (fun c6 => ?_)
        · have c6 : (!pb) = true := c6
          rw [if_pos (.inr (.inr (.inr (.inr (.inl (fun hp => by have := hpb.2 hp; rw [this] at c6; cases c6))))))] at hR
          rw [← hR]
          exact And.intro rfl rfl
        have c6 : (!pb) = false := c6
        have c6 : pw (sF bs i 48 8) := hpb.1 (nb' c6)
        refine br_intro (fun c7 => ?_) (fun c7 => ?_)
        · have c7 : ((sF bs i 48 8 : Nat) : Int) > 1 := of_decide_eq_true c7
          have hnz : (!decide (((sF bs i 48 8 : Nat) : Int) = 0)) = true := by rw [decide_eq_false (by omega)]; rfl
          refine ck_intro hnz ?_
          refine ck_intro hnz ?_
          have em : ∀ a m : Nat, (a : Int).tmod (m : Int) = ((a % m : Nat) : Int) := fun a m => (Int.ofNat_tmod a m).symm
          refine br_intro (fun c8 => ?_) (fun c8 => ?_)
          · have c8 : ((sF bs i 8 8 : Nat) : Int).tmod ((sF bs i 48 8 : Nat) : Int) ≠ ((sF bs i 16 8 : Nat) : Int).tmod ((sF bs i 48 8 : Nat) : Int) := neT c8
            rw [em, em] at c8
            rw [if_pos (.inr (.inr (.inr (.inr (.inr ⟨by omega, fun e => c8 (by rw [e])⟩)))))] at hR
            rw [← hR]
            exact And.intro rfl rfl
          have c8 : ((sF bs i 8 8 : Nat) : Int).tmod ((sF bs i 48 8 : Nat) : Int) = ((sF bs i 16 8 : Nat) : Int).tmod ((sF bs i 48 8 : Nat) : Int) := neB c8
          rw [em, em] at c8
          have hbad : ¬ badP bs i := by
            rintro (q | q | q | q | q | q)
            · omega
            · exact hA q
            · omega
            · omega
            · exact q c6
            · exact q.2 (by omega)
          rw [if_neg hbad] at hR
          refine br_intro (fun d1 => ?_) (fun d1 => ?_)
          · have d1 : ((sF bs i 0 4 : Nat) : Int) = 7 := eq_of_beq d1
            rw [if_pos (show sF bs i 0 4 = 7 by omega)] at hR
            exact ⟨⟨(i + 1, nx, tl + 1), by show i + 1 ≤ _; omega, by show tl + 1 ≤ i + 1; omega, h3, hR⟩, weak_of ⟨rfl, congrArg (fun x => AV.t (.int .i64 x)) (i64_nat (n := tl + 1) (by omega)), rfl, congrArg (fun x => AV.t (.int .u64 x)) nextI, trivial⟩ rfl, by show gN bs 56 2 - (i + 1) < gN bs 56 2 - i; omega⟩
          have d1 : ((sF bs i 0 4 : Nat) : Int) ≠ 7 := eqF d1
          rw [if_neg (show ¬ sF bs i 0 4 = 7 by omega)] at hR
          refine CallS.pure (hN 4 4 (by omega)) rfl ?_
          refine br_intro (fun d2 => ?_) (fun d2 => ?_)
          · have d2 : ((sF bs i 4 4 : Nat) : Int) > 7 := of_decide_eq_true d2
            rw [if_pos (.inl (by omega))] at hR
            rw [← hR]
            exact And.intro rfl rfl
          have d2 : ¬ ((sF bs i 4 4 : Nat) : Int) > 7 := of_decide_eq_false d2
          refine br_intro (fun d3 => ?_) (fun d3 => ?_)
          · have d3 : ((sF bs i 16 8 : Nat) : Int) < (nx : Int) := of_decide_eq_true d3
            rw [if_pos (.inr (by omega))] at hR
            rw [← hR]
            exact And.intro rfl rfl
          have d3 : ¬ ((sF bs i 16 8 : Nat) : Int) < (nx : Int) := of_decide_eq_false d3
          rw [if_neg (by omega)] at hR
          have hsz : sF bs i 16 8 + sF bs i 40 8 < 18446744073709551616 := by
            have q : ¬ (9223372036854775808 < sF bs i 16 8) := fun q => hbad (.inr (.inr (.inl q)))
            have q2 : ¬ (9223372036854775808 - sF bs i 16 8 < sF bs i 40 8) := fun q => hbad (.inr (.inr (.inr (.inl q))))
            omega
          exact ⟨⟨(i + 1, sF bs i 16 8 + sF bs i 40 8, tl), by show i + 1 ≤ _; omega, by show tl ≤ i + 1; omega, hsz, hR⟩, weak_of ⟨rfl, rfl, congrArg (fun x => AV.t (.int .u64 x)) (u64_nat (n := sF bs i 16 8 + sF bs i 40 8) hsz), congrArg (fun x => AV.t (.int .u64 x)) nextI, trivial⟩ rfl, by show gN bs 56 2 - (i + 1) < gN bs 56 2 - i; omega⟩
        · have c7 : ¬ ((sF bs i 48 8 : Nat) : Int) > 1 := of_decide_eq_false c7
          have hbad : ¬ badP bs i := by
            rintro (q | q | q | q | q | q)
            · omega
            · exact hA q
            · omega
            · omega
            · exact q c6
            · have := q.1; omega
          rw [if_neg hbad] at hR
          refine br_intro (fun d1 => ?_) (fun d1 => ?_)
          · have d1 : ((sF bs i 0 4 : Nat) : Int) = 7 := eq_of_beq d1
            rw [if_pos (show sF bs i 0 4 = 7 by omega)] at hR
            exact ⟨⟨(i + 1, nx, tl + 1), by show i + 1 ≤ _; omega, by show tl + 1 ≤ i + 1; omega, h3, hR⟩, weak_of ⟨rfl, congrArg (fun x => AV.t (.int .i64 x)) (i64_nat (n := tl + 1) (by omega)), rfl, congrArg (fun x => AV.t (.int .u64 x)) nextI, trivial⟩ rfl, by show gN bs 56 2 - (i + 1) < gN bs 56 2 - i; omega⟩
          have d1 : ((sF bs i 0 4 : Nat) : Int) ≠ 7 := eqF d1
          rw [if_neg (show ¬ sF bs i 0 4 = 7 by omega)] at hR
          refine CallS.pure (hN 4 4 (by omega)) rfl ?_
          refine br_intro (fun d2 => ?_) (fun d2 => ?_)
          · have d2 : ((sF bs i 4 4 : Nat) : Int) > 7 := of_decide_eq_true d2
            rw [if_pos (.inl (by omega))] at hR
            rw [← hR]
            exact And.intro rfl rfl
          have d2 : ¬ ((sF bs i 4 4 : Nat) : Int) > 7 := of_decide_eq_false d2
          refine br_intro (fun d3 => ?_) (fun d3 => ?_)
          · have d3 : ((sF bs i 16 8 : Nat) : Int) < (nx : Int) := of_decide_eq_true d3
            rw [if_pos (.inr (by omega))] at hR
            rw [← hR]
            exact And.intro rfl rfl
          have d3 : ¬ ((sF bs i 16 8 : Nat) : Int) < (nx : Int) := of_decide_eq_false d3
          rw [if_neg (by omega)] at hR
          have hsz : sF bs i 16 8 + sF bs i 40 8 < 18446744073709551616 := by
            have q : ¬ (9223372036854775808 < sF bs i 16 8) := fun q => hbad (.inr (.inr (.inl q)))
            have q2 : ¬ (9223372036854775808 - sF bs i 16 8 < sF bs i 40 8) := fun q => hbad (.inr (.inr (.inr (.inl q))))
            omega
          exact ⟨⟨(i + 1, sF bs i 16 8 + sF bs i 40 8, tl), by show i + 1 ≤ _; omega, by show tl ≤ i + 1; omega, hsz, hR⟩, weak_of ⟨rfl, rfl, congrArg (fun x => AV.t (.int .u64 x)) (u64_nat (n := sF bs i 16 8 + sF bs i 40 8) hsz), congrArg (fun x => AV.t (.int .u64 x)) nextI, trivial⟩ rfl, by show gN bs 56 2 - (i + 1) < gN bs 56 2 - i; omega⟩
  · have k1 : ((sF bs i 0 4 : Nat) : Int) = 1 := neB k1
    have hk : sF bs i 0 4 = 1 ∨ sF bs i 0 4 = 7 := .inl (by omega)
    rw [if_neg (by omega)] at hR
    refine CallS.pure (hN 8 8 (by omega)) rfl ?_
    refine CallS.pure (hN 16 8 (by omega)) rfl ?_
    refine CallS.pure (hN 32 8 (by omega)) rfl ?_
    refine CallS.pure (hN 40 8 (by omega)) rfl ?_
    refine CallS.pure (hN 48 8 (by omega)) rfl ?_
    refine draw_intro ordSeg (by decide +kernel) ?_
    refine br_intro (fun c1 => ?_) (fun c1 => ?_)
    · have c1 : ((sF bs i 40 8 : Nat) : Int) < ((sF bs i 32 8 : Nat) : Int) := of_decide_eq_true c1
      rw [if_pos (.inl (by omega))] at hR
      rw [← hR]
      refine And.intro (fun j hj => by cases hj) ?_
      refine And.intro (fun j hj => by cases hj) ?_
      exact And.intro rfl rfl
    have c1 : ¬ ((sF bs i 40 8 : Nat) : Int) < ((sF bs i 32 8 : Nat) : Int) := of_decide_eq_false c1
    refine br_intro (fun c2 => ?_) (fun c2 => ?_)
    · have c2 : ((sF bs i 32 8 : Nat) : Int) ≠ 0 := neT c2
      refine CallS.pure hIn rfl ?_
      refine And.intro (fun j hj => by cases hj) ?_
      refine br_intro (fun c3 => ?_) (fun c3 => ?_)
      · have c3 : (!decide (sF bs i 8 8 + sF bs i 32 8 ≤ (U bs).length)) = true := c3
        rw [U_len] at c3
        have c3 := of_decide_eq_false (nb c3)
        rw [if_pos (.inr (.inl ⟨by omega, c3⟩))] at hR
        rw [← hR]
        refine And.intro (fun j hj => by cases hj) ?_
        exact And.intro rfl rfl
      have c3 : (!decide (sF bs i 8 8 + sF bs i 32 8 ≤ (U bs).length)) = false := c3
      rw [U_len] at c3
      have c3 := of_decide_eq_true (nb' c3)
      have hA : ¬ (0 < sF bs i 32 8 ∧ ¬ sF bs i 8 8 + sF bs i 32 8 ≤ bs.length) := fun hh => hh.2 c3
      refine br_intro (fun c4 => ?_) (fun c4 => ?_)
      · have c4 : ((sF bs i 16 8 : Nat) : Int) > 9223372036854775808 := of_decide_eq_true c4
        rw [if_pos (.inr (.inr (.inl (by omega))))] at hR
        rw [← hR]
        refine And.intro (fun j hj => by cases hj) ?_
        exact And.intro rfl rfl
      have c4 : ¬ ((sF bs i 16 8 : Nat) : Int) > 9223372036854775808 := of_decide_eq_false c4
      refine br_intro (fun c5 => ?_) (fun c5 => ?_)
      · have c5 : ((sF bs i 40 8 : Nat) : Int) > 9223372036854775808 := of_decide_eq_true c5
        rw [if_pos (.inr (.inr (.inr (.inl (by omega)))))] at hR
        rw [← hR]
        refine And.intro (fun j hj => by cases hj) ?_
        exact And.intro rfl rfl
      have c5 : ¬ ((sF bs i 40 8 : Nat) : Int) > 9223372036854775808 := of_decide_eq_false c5
      have es : IntKind.u64.wrap (((sF bs i 16 8 : Nat) : Int) + ((sF bs i 40 8 : Nat) : Int)) = (((sF bs i 16 8 + sF bs i 40 8) % 18446744073709551616 : Nat) : Int) := by rw [← Int.natCast_add, u64_mod]
      refine br_intro (fun c5a => ?_) (fun c5a => ?_)
      · have c5a : IntKind.u64.wrap (((sF bs i 16 8 : Nat) : Int) + ((sF bs i 40 8 : Nat) : Int)) > 9223372036854775808 := of_decide_eq_true c5a
        rw [es] at c5a
        rw [if_pos (.inr (.inr (.inr (.inl (by omega)))))] at hR
        rw [← hR]
        refine And.intro (fun j hj => by cases hj) ?_
        exact And.intro rfl rfl
      have c5a : ¬ IntKind.u64.wrap (((sF bs i 16 8 : Nat) : Int) + ((sF bs i 40 8 : Nat) : Int)) > 9223372036854775808 := of_decide_eq_false c5a
      rw [es] at c5a
      refine br_intro (fun c5b => ?_) (fun c5b => ?_)
      · have c5b : IntKind.u64.wrap (((sF bs i 16 8 : Nat) : Int) + ((sF bs i 40 8 : Nat) : Int)) < ((sF bs i 16 8 : Nat) : Int) := of_decide_eq_true c5b
        rw [es] at c5b
        rw [if_pos (.inr (.inr (.inr (.inl (by omega)))))] at hR
        rw [← hR]
        refine And.intro (fun j hj => by cases hj) ?_
        exact And.intro rfl rfl
      have c5b : ¬ IntKind.u64.wrap (((sF bs i 16 8 : Nat) : Int) + ((sF bs i 40 8 : Nat) : Int)) < ((sF bs i 16 8 : Nat) : Int) := of_decide_eq_false c5b
      rw [es] at c5b
      obtain ⟨pb, hPw, hpb⟩ := power_r (n := sF bs i 48 8) l48
      refine CallS.pure hPw rfl ?_
      refine And.intro (fun j hj => by cases hj) ?_
      refine br_intro (fun c6 => ?_) (fun c6 => ?_)
      · have c6 : (!pb) = true := c6
        rw [if_pos (.inr (.inr (.inr (.inr (.inl (fun hp => by have := hpb.2 hp; rw [this] at c6; cases c6))))))] at hR
        rw [← hR]
        exact And.intro rfl rfl
      have c6 : (!pb) = false := c6
      have c6 : pw (sF bs i 48 8) := hpb.1 (nb' c6)
      refine br_intro (fun c7 => ?_) (fun c7 => ?_)
      · have c7 : ((sF bs i 48 8 : Nat) : Int) > 1 := of_decide_eq_true c7
        have hnz : (!decide (((sF bs i 48 8 : Nat) : Int) = 0)) = true := by rw [decide_eq_false (by omega)]; rfl
        refine ck_intro hnz ?_
        refine ck_intro hnz ?_
        have em : ∀ a m : Nat, (a : Int).tmod (m : Int) = ((a % m : Nat) : Int) := fun a m => (Int.ofNat_tmod a m).symm
        refine br_intro (fun c8 => ?_) (fun c8 => ?_)
        · have c8 : ((sF bs i 8 8 : Nat) : Int).tmod ((sF bs i 48 8 : Nat) : Int) ≠ ((sF bs i 16 8 : Nat) : Int).tmod ((sF bs i 48 8 : Nat) : Int) := neT c8
          rw [em, em] at c8
          rw [if_pos (.inr (.inr (.inr (.inr (.inr ⟨by omega, fun e => c8 (by rw [e])⟩)))))] at hR
          rw [← hR]
          exact And.intro rfl rfl
        have c8 : ((sF bs i 8 8 : Nat) : Int).tmod ((sF bs i 48 8 : Nat) : Int) = ((sF bs i 16 8 : Nat) : Int).tmod ((sF bs i 48 8 : Nat) : Int) := neB c8
        rw [em, em] at c8
        have hbad : ¬ badP bs i := by
          rintro (q | q | q | q | q | q)
          · omega
          · exact hA q
          · omega
          · omega
          · exact q c6
          · exact q.2 (by omega)
        rw [if_neg hbad] at hR
        refine br_intro (fun d1 => ?_) (fun d1 => ?_)
        · have d1 : ((sF bs i 0 4 : Nat) : Int) = 7 := eq_of_beq d1
          rw [if_pos (show sF bs i 0 4 = 7 by omega)] at hR
          exact ⟨⟨(i + 1, nx, tl + 1), by show i + 1 ≤ _; omega, by show tl + 1 ≤ i + 1; omega, h3, hR⟩, weak_of ⟨rfl, congrArg (fun x => AV.t (.int .i64 x)) (i64_nat (n := tl + 1) (by omega)), rfl, congrArg (fun x => AV.t (.int .u64 x)) nextI, trivial⟩ rfl, by show gN bs 56 2 - (i + 1) < gN bs 56 2 - i; omega⟩
        have d1 : ((sF bs i 0 4 : Nat) : Int) ≠ 7 := eqF d1
        rw [if_neg (show ¬ sF bs i 0 4 = 7 by omega)] at hR
        refine CallS.pure (hN 4 4 (by omega)) rfl ?_
        refine br_intro (fun d2 => ?_) (fun d2 => ?_)
        · have d2 : ((sF bs i 4 4 : Nat) : Int) > 7 := of_decide_eq_true d2
          rw [if_pos (.inl (by omega))] at hR
          rw [← hR]
          exact And.intro rfl rfl
        have d2 : ¬ ((sF bs i 4 4 : Nat) : Int) > 7 := of_decide_eq_false d2
        refine br_intro (fun d3 => ?_) (fun d3 => ?_)
        · have d3 : ((sF bs i 16 8 : Nat) : Int) < (nx : Int) := of_decide_eq_true d3
          rw [if_pos (.inr (by omega))] at hR
          rw [← hR]
          exact And.intro rfl rfl
        have d3 : ¬ ((sF bs i 16 8 : Nat) : Int) < (nx : Int) := of_decide_eq_false d3
        rw [if_neg (by omega)] at hR
        have hsz : sF bs i 16 8 + sF bs i 40 8 < 18446744073709551616 := by
          have q : ¬ (9223372036854775808 < sF bs i 16 8) := fun q => hbad (.inr (.inr (.inl q)))
          have q2 : ¬ (9223372036854775808 - sF bs i 16 8 < sF bs i 40 8) := fun q => hbad (.inr (.inr (.inr (.inl q))))
          omega
        exact ⟨⟨(i + 1, sF bs i 16 8 + sF bs i 40 8, tl), by show i + 1 ≤ _; omega, by show tl ≤ i + 1; omega, hsz, hR⟩, weak_of ⟨rfl, rfl, congrArg (fun x => AV.t (.int .u64 x)) (u64_nat (n := sF bs i 16 8 + sF bs i 40 8) hsz), congrArg (fun x => AV.t (.int .u64 x)) nextI, trivial⟩ rfl, by show gN bs 56 2 - (i + 1) < gN bs 56 2 - i; omega⟩
      · have c7 : ¬ ((sF bs i 48 8 : Nat) : Int) > 1 := of_decide_eq_false c7
        have hbad : ¬ badP bs i := by
          rintro (q | q | q | q | q | q)
          · omega
          · exact hA q
          · omega
          · omega
          · exact q c6
          · have := q.1; omega
        rw [if_neg hbad] at hR
        refine br_intro (fun d1 => ?_) (fun d1 => ?_)
        · have d1 : ((sF bs i 0 4 : Nat) : Int) = 7 := eq_of_beq d1
          rw [if_pos (show sF bs i 0 4 = 7 by omega)] at hR
          exact ⟨⟨(i + 1, nx, tl + 1), by show i + 1 ≤ _; omega, by show tl + 1 ≤ i + 1; omega, h3, hR⟩, weak_of ⟨rfl, congrArg (fun x => AV.t (.int .i64 x)) (i64_nat (n := tl + 1) (by omega)), rfl, congrArg (fun x => AV.t (.int .u64 x)) nextI, trivial⟩ rfl, by show gN bs 56 2 - (i + 1) < gN bs 56 2 - i; omega⟩
        have d1 : ((sF bs i 0 4 : Nat) : Int) ≠ 7 := eqF d1
        rw [if_neg (show ¬ sF bs i 0 4 = 7 by omega)] at hR
        refine CallS.pure (hN 4 4 (by omega)) rfl ?_
        refine br_intro (fun d2 => ?_) (fun d2 => ?_)
        · have d2 : ((sF bs i 4 4 : Nat) : Int) > 7 := of_decide_eq_true d2
          rw [if_pos (.inl (by omega))] at hR
          rw [← hR]
          exact And.intro rfl rfl
        have d2 : ¬ ((sF bs i 4 4 : Nat) : Int) > 7 := of_decide_eq_false d2
        refine br_intro (fun d3 => ?_) (fun d3 => ?_)
        · have d3 : ((sF bs i 16 8 : Nat) : Int) < (nx : Int) := of_decide_eq_true d3
          rw [if_pos (.inr (by omega))] at hR
          rw [← hR]
          exact And.intro rfl rfl
        have d3 : ¬ ((sF bs i 16 8 : Nat) : Int) < (nx : Int) := of_decide_eq_false d3
        rw [if_neg (by omega)] at hR
        have hsz : sF bs i 16 8 + sF bs i 40 8 < 18446744073709551616 := by
          have q : ¬ (9223372036854775808 < sF bs i 16 8) := fun q => hbad (.inr (.inr (.inl q)))
          have q2 : ¬ (9223372036854775808 - sF bs i 16 8 < sF bs i 40 8) := fun q => hbad (.inr (.inr (.inr (.inl q))))
          omega
        exact ⟨⟨(i + 1, sF bs i 16 8 + sF bs i 40 8, tl), by show i + 1 ≤ _; omega, by show tl ≤ i + 1; omega, hsz, hR⟩, weak_of ⟨rfl, rfl, congrArg (fun x => AV.t (.int .u64 x)) (u64_nat (n := sF bs i 16 8 + sF bs i 40 8) hsz), congrArg (fun x => AV.t (.int .u64 x)) nextI, trivial⟩ rfl, by show gN bs 56 2 - (i + 1) < gN bs 56 2 - i; omega⟩
    · have c2 : ((sF bs i 32 8 : Nat) : Int) = 0 := neB c2
      refine And.intro (fun j hj => by cases hj) ?_
      have hA : ¬ (0 < sF bs i 32 8 ∧ ¬ sF bs i 8 8 + sF bs i 32 8 ≤ bs.length) := fun hh => by have := hh.1; omega
      refine br_intro (fun c4 => ?_) (fun c4 => ?_)
      · have c4 : ((sF bs i 16 8 : Nat) : Int) > 9223372036854775808 := of_decide_eq_true c4
        rw [if_pos (.inr (.inr (.inl (by omega))))] at hR
        rw [← hR]
        refine And.intro (fun j hj => by cases hj) ?_
        exact And.intro rfl rfl
      have c4 : ¬ ((sF bs i 16 8 : Nat) : Int) > 9223372036854775808 := of_decide_eq_false c4
      refine br_intro (fun c5 => ?_) (fun c5 => ?_)
      · have c5 : ((sF bs i 40 8 : Nat) : Int) > 9223372036854775808 := of_decide_eq_true c5
        rw [if_pos (.inr (.inr (.inr (.inl (by omega)))))] at hR
        rw [← hR]
        refine And.intro (fun j hj => by cases hj) ?_
        exact And.intro rfl rfl
      have c5 : ¬ ((sF bs i 40 8 : Nat) : Int) > 9223372036854775808 := of_decide_eq_false c5
      have es : IntKind.u64.wrap (((sF bs i 16 8 : Nat) : Int) + ((sF bs i 40 8 : Nat) : Int)) = (((sF bs i 16 8 + sF bs i 40 8) % 18446744073709551616 : Nat) : Int) := by rw [← Int.natCast_add, u64_mod]
      refine br_intro (fun c5a => ?_) (fun c5a => ?_)
      · have c5a : IntKind.u64.wrap (((sF bs i 16 8 : Nat) : Int) + ((sF bs i 40 8 : Nat) : Int)) > 9223372036854775808 := of_decide_eq_true c5a
        rw [es] at c5a
        rw [if_pos (.inr (.inr (.inr (.inl (by omega)))))] at hR
        rw [← hR]
        refine And.intro (fun j hj => by cases hj) ?_
        exact And.intro rfl rfl
      have c5a : ¬ IntKind.u64.wrap (((sF bs i 16 8 : Nat) : Int) + ((sF bs i 40 8 : Nat) : Int)) > 9223372036854775808 := of_decide_eq_false c5a
      rw [es] at c5a
      refine br_intro (fun c5b => ?_) (fun c5b => ?_)
      · have c5b : IntKind.u64.wrap (((sF bs i 16 8 : Nat) : Int) + ((sF bs i 40 8 : Nat) : Int)) < ((sF bs i 16 8 : Nat) : Int) := of_decide_eq_true c5b
        rw [es] at c5b
        rw [if_pos (.inr (.inr (.inr (.inl (by omega)))))] at hR
        rw [← hR]
        refine And.intro (fun j hj => by cases hj) ?_
        exact And.intro rfl rfl
      have c5b : ¬ IntKind.u64.wrap (((sF bs i 16 8 : Nat) : Int) + ((sF bs i 40 8 : Nat) : Int)) < ((sF bs i 16 8 : Nat) : Int) := of_decide_eq_false c5b
      rw [es] at c5b
      obtain ⟨pb, hPw, hpb⟩ := power_r (n := sF bs i 48 8) l48
      refine CallS.pure hPw rfl ?_
      refine And.intro (fun j hj => by cases hj) ?_
      refine br_intro (fun c6 => ?_) (fun c6 => ?_)
      · have c6 : (!pb) = true := c6
        rw [if_pos (.inr (.inr (.inr (.inr (.inl (fun hp => by have := hpb.2 hp; rw [this] at c6; cases c6))))))] at hR
        rw [← hR]
        exact And.intro rfl rfl
      have c6 : (!pb) = false := c6
      have c6 : pw (sF bs i 48 8) := hpb.1 (nb' c6)
      refine br_intro (fun c7 => ?_) (fun c7 => ?_)
      · have c7 : ((sF bs i 48 8 : Nat) : Int) > 1 := of_decide_eq_true c7
        have hnz : (!decide (((sF bs i 48 8 : Nat) : Int) = 0)) = true := by rw [decide_eq_false (by omega)]; rfl
        refine ck_intro hnz ?_
        refine ck_intro hnz ?_
        have em : ∀ a m : Nat, (a : Int).tmod (m : Int) = ((a % m : Nat) : Int) := fun a m => (Int.ofNat_tmod a m).symm
        refine br_intro (fun c8 => ?_) (fun c8 => ?_)
        · have c8 : ((sF bs i 8 8 : Nat) : Int).tmod ((sF bs i 48 8 : Nat) : Int) ≠ ((sF bs i 16 8 : Nat) : Int).tmod ((sF bs i 48 8 : Nat) : Int) := neT c8
          rw [em, em] at c8
          rw [if_pos (.inr (.inr (.inr (.inr (.inr ⟨by omega, fun e => c8 (by rw [e])⟩)))))] at hR
          rw [← hR]
          exact And.intro rfl rfl
        have c8 : ((sF bs i 8 8 : Nat) : Int).tmod ((sF bs i 48 8 : Nat) : Int) = ((sF bs i 16 8 : Nat) : Int).tmod ((sF bs i 48 8 : Nat) : Int) := neB c8
        rw [em, em] at c8
        have hbad : ¬ badP bs i := by
          rintro (q | q | q | q | q | q)
          · omega
          · exact hA q
          · omega
          · omega
          · exact q c6
          · exact q.2 (by omega)
        rw [if_neg hbad] at hR
        refine br_intro (fun d1 => ?_) (fun d1 => ?_)
        · have d1 : ((sF bs i 0 4 : Nat) : Int) = 7 := eq_of_beq d1
          rw [if_pos (show sF bs i 0 4 = 7 by omega)] at hR
          exact ⟨⟨(i + 1, nx, tl + 1), by show i + 1 ≤ _; omega, by show tl + 1 ≤ i + 1; omega, h3, hR⟩, weak_of ⟨rfl, congrArg (fun x => AV.t (.int .i64 x)) (i64_nat (n := tl + 1) (by omega)), rfl, congrArg (fun x => AV.t (.int .u64 x)) nextI, trivial⟩ rfl, by show gN bs 56 2 - (i + 1) < gN bs 56 2 - i; omega⟩
        have d1 : ((sF bs i 0 4 : Nat) : Int) ≠ 7 := eqF d1
        rw [if_neg (show ¬ sF bs i 0 4 = 7 by omega)] at hR
        refine CallS.pure (hN 4 4 (by omega)) rfl ?_
        refine br_intro (fun d2 => ?_) (fun d2 => ?_)
        · have d2 : ((sF bs i 4 4 : Nat) : Int) > 7 := of_decide_eq_true d2
          rw [if_pos (.inl (by omega))] at hR
          rw [← hR]
          exact And.intro rfl rfl
        have d2 : ¬ ((sF bs i 4 4 : Nat) : Int) > 7 := of_decide_eq_false d2
        refine br_intro (fun d3 => ?_) (fun d3 => ?_)
        · have d3 : ((sF bs i 16 8 : Nat) : Int) < (nx : Int) := of_decide_eq_true d3
          rw [if_pos (.inr (by omega))] at hR
          rw [← hR]
          exact And.intro rfl rfl
        have d3 : ¬ ((sF bs i 16 8 : Nat) : Int) < (nx : Int) := of_decide_eq_false d3
        rw [if_neg (by omega)] at hR
        have hsz : sF bs i 16 8 + sF bs i 40 8 < 18446744073709551616 := by
          have q : ¬ (9223372036854775808 < sF bs i 16 8) := fun q => hbad (.inr (.inr (.inl q)))
          have q2 : ¬ (9223372036854775808 - sF bs i 16 8 < sF bs i 40 8) := fun q => hbad (.inr (.inr (.inr (.inl q))))
          omega
        exact ⟨⟨(i + 1, sF bs i 16 8 + sF bs i 40 8, tl), by show i + 1 ≤ _; omega, by show tl ≤ i + 1; omega, hsz, hR⟩, weak_of ⟨rfl, rfl, congrArg (fun x => AV.t (.int .u64 x)) (u64_nat (n := sF bs i 16 8 + sF bs i 40 8) hsz), congrArg (fun x => AV.t (.int .u64 x)) nextI, trivial⟩ rfl, by show gN bs 56 2 - (i + 1) < gN bs 56 2 - i; omega⟩
      · have c7 : ¬ ((sF bs i 48 8 : Nat) : Int) > 1 := of_decide_eq_false c7
        have hbad : ¬ badP bs i := by
          rintro (q | q | q | q | q | q)
          · omega
          · exact hA q
          · omega
          · omega
          · exact q c6
          · have := q.1; omega
        rw [if_neg hbad] at hR
        refine br_intro (fun d1 => ?_) (fun d1 => ?_)
        · have d1 : ((sF bs i 0 4 : Nat) : Int) = 7 := eq_of_beq d1
          rw [if_pos (show sF bs i 0 4 = 7 by omega)] at hR
          exact ⟨⟨(i + 1, nx, tl + 1), by show i + 1 ≤ _; omega, by show tl + 1 ≤ i + 1; omega, h3, hR⟩, weak_of ⟨rfl, congrArg (fun x => AV.t (.int .i64 x)) (i64_nat (n := tl + 1) (by omega)), rfl, congrArg (fun x => AV.t (.int .u64 x)) nextI, trivial⟩ rfl, by show gN bs 56 2 - (i + 1) < gN bs 56 2 - i; omega⟩
        have d1 : ((sF bs i 0 4 : Nat) : Int) ≠ 7 := eqF d1
        rw [if_neg (show ¬ sF bs i 0 4 = 7 by omega)] at hR
        refine CallS.pure (hN 4 4 (by omega)) rfl ?_
        refine br_intro (fun d2 => ?_) (fun d2 => ?_)
        · have d2 : ((sF bs i 4 4 : Nat) : Int) > 7 := of_decide_eq_true d2
          rw [if_pos (.inl (by omega))] at hR
          rw [← hR]
          exact And.intro rfl rfl
        have d2 : ¬ ((sF bs i 4 4 : Nat) : Int) > 7 := of_decide_eq_false d2
        refine br_intro (fun d3 => ?_) (fun d3 => ?_)
        · have d3 : ((sF bs i 16 8 : Nat) : Int) < (nx : Int) := of_decide_eq_true d3
          rw [if_pos (.inr (by omega))] at hR
          rw [← hR]
          exact And.intro rfl rfl
        have d3 : ¬ ((sF bs i 16 8 : Nat) : Int) < (nx : Int) := of_decide_eq_false d3
        rw [if_neg (by omega)] at hR
        have hsz : sF bs i 16 8 + sF bs i 40 8 < 18446744073709551616 := by
          have q : ¬ (9223372036854775808 < sF bs i 16 8) := fun q => hbad (.inr (.inr (.inl q)))
          have q2 : ¬ (9223372036854775808 - sF bs i 16 8 < sF bs i 40 8) := fun q => hbad (.inr (.inr (.inr (.inl q))))
          omega
        exact ⟨⟨(i + 1, sF bs i 16 8 + sF bs i 40 8, tl), by show i + 1 ≤ _; omega, by show tl ≤ i + 1; omega, hsz, hR⟩, weak_of ⟨rfl, rfl, congrArg (fun x => AV.t (.int .u64 x)) (u64_nat (n := sF bs i 16 8 + sF bs i 40 8) hsz), congrArg (fun x => AV.t (.int .u64 x)) nextI, trivial⟩ rfl, by show gN bs 56 2 - (i + 1) < gN bs 56 2 - i; omega⟩

end Go.Proofs.YthpkehhghcpolaaDoor
