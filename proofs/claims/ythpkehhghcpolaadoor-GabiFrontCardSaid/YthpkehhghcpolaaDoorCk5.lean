/-
  The segments of a file: the program's function.
-/
import Derived.Test.YthpkehhghcpolaaDoorCk4
namespace Go.Proofs.YthpkehhghcpolaaDoor
open Go.IntWalk
set_option maxRecDepth 100000
set_option linter.unusedVariables false
set_option linter.unusedSimpArgs false

theorem u64_mod (n : Nat) : IntKind.u64.wrap (n : Int) = ((n % 18446744073709551616 : Nat) : Int) := by rw [IntKind.wrap_u64]; omega

/-- Where a segment's header is, and its numbers. -/
def sH (bs : List UInt8) (i : Nat) : Nat := (gN bs 32 8 + 56 * i) % 18446744073709551616
def sF (bs : List UInt8) (i d n : Nat) : Nat := gN bs ((sH bs i + d) % 18446744073709551616) n

/-- Is a segment wrong? -/
def badP (bs : List UInt8) (i : Nat) : Prop :=
  sF bs i 40 8 < sF bs i 32 8 ∨ (0 < sF bs i 32 8 ∧ ¬ sF bs i 8 8 + sF bs i 32 8 ≤ bs.length) ∨ 9223372036854775808 < sF bs i 16 8 ∨ 9223372036854775808 - sF bs i 16 8 < sF bs i 40 8 ∨
    ¬ pw (sF bs i 48 8) ∨ (1 < sF bs i 48 8 ∧ sF bs i 8 8 % sF bs i 48 8 ≠ sF bs i 16 8 % sF bs i 48 8)

open Classical in
/-- Are the segments right, of which so many are left? -/
noncomputable def segS (bs : List UInt8) : Nat → Nat → Nat → Nat → Bool
  | 0, _, _, tls => decide (tls ≤ 1)
  | n + 1, i, next, tls =>
    if sF bs i 0 4 ≠ 1 ∧ sF bs i 0 4 ≠ 7 then segS bs n (i + 1) next tls
    else if badP bs i then false
    else if sF bs i 0 4 = 7 then segS bs n (i + 1) next (tls + 1)
    else if 7 < sF bs i 4 4 ∨ sF bs i 16 8 < next then false
    else segS bs n (i + 1) (sF bs i 16 8 + sF bs i 40 8) tls

noncomputable def sgB (bs : List UInt8) : Bool := segS bs (gN bs 56 2) 0 0 0

theorem sF_lt8 (bs : List UInt8) (i d : Nat) : sF bs i d 8 < 18446744073709551616 := g8_lt _ _
theorem sF_lt4 (bs : List UInt8) (i d : Nat) : sF bs i d 4 < 4294967296 := g4_lt _ _

/-- The header's place, as the programs reckon it. -/
theorem sH_eq (bs : List UInt8) (i : Nat) (hi : i < 65536) : IntKind.u64.wrap (((gN bs 32 8 : Nat) : Int) + IntKind.u64.wrap (56 * (i : Int))) = ((sH bs i : Nat) : Int) := by
  rw [show (56 * (i : Int)) = ((56 * i : Nat) : Int) by omega, u64_nat (n := 56 * i) (by omega), ← Int.natCast_add, u64_mod]
  rfl

theorem sH_lt (bs : List UInt8) (i : Nat) : sH bs i < 18446744073709551616 := Nat.mod_lt _ (by omega)

theorem sF0 (bs : List UInt8) (i n : Nat) : sF bs i 0 n = gN bs (sH bs i) n := by
  unfold sF; rw [Nat.add_zero, Nat.mod_eq_of_lt (sH_lt _ _)]

/-- Differences modulo a power of two. -/
theorem sub_mod {a v m : Nat} (ha : a < 18446744073709551616) (hv : v < 18446744073709551616) (hm : 1 < m) (hp : pw m) :
    (IntKind.u64.wrap ((a : Int) - (v : Int))).tmod (m : Int) = 0 ↔ a % m = v % m := by
  obtain ⟨j, hj, rfl⟩ : ∃ j, j < 64 ∧ m = 2 ^ j := by
    rcases hp with h | h
    · omega
    · exact h
  have hd : (2 : Nat) ^ j ∣ 18446744073709551616 := ⟨2 ^ (64 - j), by rw [← Nat.pow_add, show j + (64 - j) = 64 by omega]⟩
  generalize hm' : 2 ^ j = m at *
  have hw : IntKind.u64.wrap ((a : Int) - (v : Int)) = (((a + (18446744073709551616 - v)) % 18446744073709551616 : Nat) : Int) := by
    rw [IntKind.wrap_u64]; omega
  rw [hw]
  rw [show (((a + (18446744073709551616 - v)) % 18446744073709551616 : Nat) : Int).tmod (m : Int) = (((a + (18446744073709551616 - v)) % 18446744073709551616 % m : Nat) : Int) from (Int.ofNat_tmod _ _).symm]
  rw [Nat.mod_mod_of_dvd _ hd]
  obtain ⟨q, hq⟩ := hd
  have hm0 : 0 < m := by omega
  constructor
  · intro h
    have h : (a + (18446744073709551616 - v)) % m = 0 := by omega
    have h2 : (a + (18446744073709551616 - v) + v) % m = v % m := by
      rw [Nat.add_mod, h, Nat.zero_add, Nat.mod_mod]
    rw [show a + (18446744073709551616 - v) + v = a + 18446744073709551616 by omega, hq, Nat.add_mul_mod_self_left] at h2
    exact h2
  · intro h
    have h2 : (a + (18446744073709551616 - v)) % m = (v + (18446744073709551616 - v)) % m := by
      rw [Nat.add_mod, h, ← Nat.add_mod]
    rw [show v + (18446744073709551616 - v) = m * q by omega, Nat.mul_mod_right] at h2
    rw [h2]; rfl

theorem nb {b : Bool} (h : (!b) = true) : b = false := by simpa using h
theorem nb' {b : Bool} (h : (!b) = false) : b = true := by simpa using h
theorem neB {a b : Int} (h : (a != b) = false) : a = b := by simpa using h
theorem neT {a b : Int} (h : (a != b) = true) : a ≠ b := by simpa using h
theorem eqF {a b : Int} (h : (a == b) = false) : a ≠ b := by simpa using h

set_option maxHeartbeats 4000000 in
theorem segments_g (bs : List UInt8) (hb : bs.length ≤ 211106232532992) : Runs Tryd.prog 41 [.vec 1 (U bs)] (.t (.bool (sgB bs))) := by
  have hx : BX (.vec 1 (U bs)) bs := .vec bs _ rfl
  have hcnt := g2_lt bs 56
  refine Runs.of_call ?_ rfl
  refine CallS.of_fn tab_ok reg_ok Tryd.func41 rfl rfl ?_
  refine CallS.pure (num_g hx hb (a := 32) (n := 8) (by omega) (by omega)) rfl ?_
  refine CallS.pure (num_g hx hb (a := 56) (n := 2) (by omega) (by omega)) rfl ?_
  refine loop_on (fun s : Nat × Nat × Nat => s.1 ≤ gN bs 56 2 ∧ s.2.2 ≤ s.1 ∧ s.2.1 < 18446744073709551616 ∧ segS bs (gN bs 56 2 - s.1) s.1 s.2.1 s.2.2 = sgB bs)
    (fun s => ⟨[(0, .t (.vec 1 (U bs))), (3, .t (.int .u64 ((gN bs 32 8 : Nat) : Int))), (4, .t (.int .u64 ((s.2.1 : Nat) : Int))), (5, .t (.int .i64 ((s.2.2 : Nat) : Int))), (18, .t (.int .u64 ((gN bs 56 2 : Nat) : Int))), (19, .t (.int .u64 ((s.1 : Nat) : Int)))], []⟩)
    (fun s => gN bs 56 2 - s.1) (0, 0, 0) ⟨Nat.zero_le _, Nat.le_refl _, by decide, rfl⟩ (weak_of ⟨rfl, rfl, rfl, rfl, rfl, rfl, trivial⟩ rfl) (fun s hi => ?_)
  obtain ⟨i, nx, tl⟩ := s
  obtain ⟨h1, h2, h3, hR⟩ := hi
  simp only at h1 h2 h3 hR
  refine br_intro (fun h => ?_) (fun h => ?_)
  rotate_left
  · have h : ¬ (i : Int) < ((gN bs 56 2 : Nat) : Int) := of_decide_eq_false h
    rw [show gN bs 56 2 - i = 0 by omega, segS] at hR
    have e : decide ((tl : Int) ≤ 1) = sgB bs := by rw [← hR]; exact decide_eq_decide.2 (by omega)
    exact And.intro (congrArg (fun b => some (T.bool b)) e) rfl
  have h : (i : Int) < ((gN bs 56 2 : Nat) : Int) := of_decide_eq_true h
  rw [show gN bs 56 2 - i = (gN bs 56 2 - (i + 1)) + 1 by omega, segS] at hR
  have hH := sH_eq bs i (by omega)
  have hN0 := num_g hx hb (a := sH bs i) (n := 4) (sH_lt _ _) (by omega)
  rw [← sF0, ← hH] at hN0
  have hN : ∀ (d n : Nat), 1 ≤ n ∧ n ≤ 8 → Runs Tryd.prog 60 [.vec 1 (U bs), .int .u64 (IntKind.u64.wrap (IntKind.u64.wrap (((gN bs 32 8 : Nat) : Int) + IntKind.u64.wrap (56 * (i : Int))) + (d : Int))), .int .i64 (n : Int)] (.t (.int .u64 ((sF bs i d n : Nat) : Int))) := fun d n hn => by
    have := num_g hx hb (a := (sH bs i + d) % 18446744073709551616) (n := n) (Nat.mod_lt _ (by omega)) hn
    rw [← u64_mod, Int.natCast_add, ← hH] at this
    exact this
  refine CallS.pure hN0 rfl ?_
  refine CallS.pure (hN 4 4 (by omega)) rfl ?_
  refine CallS.pure (hN 8 8 (by omega)) rfl ?_
  refine CallS.pure (hN 16 8 (by omega)) rfl ?_
  refine CallS.pure (hN 32 8 (by omega)) rfl ?_
  refine CallS.pure (hN 40 8 (by omega)) rfl ?_
  refine CallS.pure (hN 48 8 (by omega)) rfl ?_
  clear hN hN0 hH
  have l8 := sF_lt8 bs i 8
  have l16 := sF_lt8 bs i 16
  have l32 := sF_lt8 bs i 32
  have l40 := sF_lt8 bs i 40
  have l48 := sF_lt8 bs i 48
  have l4 := sF_lt4 bs i 4
  have l0 := sF_lt4 bs i 0
  -- the next round
  have nextI : IntKind.u64.wrap ((i : Int) + 1) = ((i + 1 : Nat) : Int) := u64_nat (n := i + 1) (by omega)
  refine br_intro (fun k1 => ?_) (fun k1 => ?_)
  · have k1 := neT k1
    refine br_intro (fun k7 => ?_) (fun k7 => ?_)
    · have k7 : ((sF bs i 0 4 : Nat) : Int) ≠ 7 := neT k7
      rw [if_pos ⟨by omega, by omega⟩] at hR
      exact ⟨⟨(i + 1, nx, tl), by show i + 1 ≤ _; omega, by show tl ≤ i + 1; omega, h3, hR⟩, weak_of ⟨rfl, rfl, rfl, rfl, rfl, congrArg (fun x => AV.t (.int .u64 x)) nextI, trivial⟩ rfl, by show gN bs 56 2 - (i + 1) < gN bs 56 2 - i; omega⟩
    · have k7 : ((sF bs i 0 4 : Nat) : Int) = 7 := neB k7
      have hk : sF bs i 0 4 = 1 ∨ sF bs i 0 4 = 7 := .inr (by omega)
      rw [if_neg (by omega)] at hR
      refine br_intro (fun c1 => ?_) (fun c1 => ?_)
      · have c1 : ((sF bs i 40 8 : Nat) : Int) < ((sF bs i 32 8 : Nat) : Int) := of_decide_eq_true c1
        rw [if_pos (.inl (by omega))] at hR
        rw [← hR]
        exact And.intro rfl rfl
      have c1 : ¬ ((sF bs i 40 8 : Nat) : Int) < ((sF bs i 32 8 : Nat) : Int) := of_decide_eq_false c1
      refine br_intro (fun c2 => ?_) (fun c2 => ?_)
      · have c2 : ((sF bs i 32 8 : Nat) : Int) > 0 := of_decide_eq_true c2
        refine CallS.pure (within_g hx hb (a := sF bs i 8 8) (n := sF bs i 32 8) l8 l32) rfl ?_
        refine br_intro (fun c3 => ?_) (fun c3 => ?_)
        · have c3 : (!decide (sF bs i 8 8 + sF bs i 32 8 ≤ bs.length)) = true := c3
          have c3 := of_decide_eq_false (nb c3)
          rw [if_pos (.inr (.inl ⟨by omega, c3⟩))] at hR
          rw [← hR]
          exact And.intro rfl rfl
        have c3 : (!decide (sF bs i 8 8 + sF bs i 32 8 ≤ bs.length)) = false := c3
        have c3 := of_decide_eq_true (nb' c3)
        have hA : ¬ (0 < sF bs i 32 8 ∧ ¬ sF bs i 8 8 + sF bs i 32 8 ≤ bs.length) := fun hh => hh.2 c3
        refine br_intro (fun c4 => ?_) (fun c4 => ?_)
        · have c4 : ((sF bs i 16 8 : Nat) : Int) > 9223372036854775808 := of_decide_eq_true c4
          rw [if_pos (.inr (.inr (.inl (by omega))))] at hR
          rw [← hR]
          exact And.intro rfl rfl
        have c4 : ¬ ((sF bs i 16 8 : Nat) : Int) > 9223372036854775808 := of_decide_eq_false c4
        have e5 : IntKind.u64.wrap (9223372036854775808 - ((sF bs i 16 8 : Nat) : Int)) = ((9223372036854775808 - sF bs i 16 8 : Nat) : Int) := by rw [IntKind.wrap_u64]; omega
        refine br_intro (fun c5 => ?_) (fun c5 => ?_)
        · have c5 : ((sF bs i 40 8 : Nat) : Int) > IntKind.u64.wrap (9223372036854775808 - ((sF bs i 16 8 : Nat) : Int)) := of_decide_eq_true c5
          rw [e5] at c5
          rw [if_pos (.inr (.inr (.inr (.inl (by omega)))))] at hR
          rw [← hR]
          exact And.intro rfl rfl
        have c5 : ¬ ((sF bs i 40 8 : Nat) : Int) > IntKind.u64.wrap (9223372036854775808 - ((sF bs i 16 8 : Nat) : Int)) := of_decide_eq_false c5
        rw [e5] at c5
        obtain ⟨pb, hPw, hpb⟩ := power_g (n := sF bs i 48 8) l48
        refine CallS.pure hPw rfl ?_
        refine br_intro (fun c6 => ?_) (fun c6 => ?_)
        · have c6 : (!pb) = true := c6
          rw [if_pos (.inr (.inr (.inr (.inr (.inl (fun hp => by have := hpb.2 hp; rw [this] at c6; cases c6))))))] at hR
          rw [← hR]
          exact And.intro rfl rfl
        have c6 : (!pb) = false := c6
        have c6 : pw (sF bs i 48 8) := hpb.1 (nb' c6)
        refine br_intro (fun c7 => ?_) (fun c7 => ?_)
        · have c7 : ((sF bs i 48 8 : Nat) : Int) > 1 := of_decide_eq_true c7
          have hsm := sub_mod l8 l16 (show 1 < sF bs i 48 8 by omega) c6
          refine ck_intro (show (!decide (((sF bs i 48 8 : Nat) : Int) = 0)) = true by rw [decide_eq_false (by omega)]; rfl) ?_
          refine br_intro (fun c8 => ?_) (fun c8 => ?_)
          · have c8 : (IntKind.u64.wrap (((sF bs i 8 8 : Nat) : Int) - ((sF bs i 16 8 : Nat) : Int))).tmod ((sF bs i 48 8 : Nat) : Int) ≠ 0 := neT c8
            rw [if_pos (.inr (.inr (.inr (.inr (.inr ⟨by omega, fun e => c8 (hsm.2 e)⟩)))))] at hR
            rw [← hR]
            exact And.intro rfl rfl
          have c8 : (IntKind.u64.wrap (((sF bs i 8 8 : Nat) : Int) - ((sF bs i 16 8 : Nat) : Int))).tmod ((sF bs i 48 8 : Nat) : Int) = 0 := neB c8
          have c8 := hsm.1 c8
          have hbad : ¬ badP bs i := by
            rintro (q | q | q | q | q | q)
            · omega
            · exact hA q
            · omega
            · omega
            · exact q c6
            · exact q.2 c8
          rw [if_neg hbad] at hR
          refine br_intro (fun d1 => ?_) (fun d1 => ?_)
          · have d1 : ((sF bs i 0 4 : Nat) : Int) = 7 := eq_of_beq d1
            rw [if_pos (show sF bs i 0 4 = 7 by omega)] at hR
            exact ⟨⟨(i + 1, nx, tl + 1), by show i + 1 ≤ _; omega, by show tl + 1 ≤ i + 1; omega, h3, hR⟩, weak_of ⟨rfl, rfl, rfl, congrArg (fun x => AV.t (.int .i64 x)) (i64_nat (n := tl + 1) (by omega)), rfl, congrArg (fun x => AV.t (.int .u64 x)) nextI, trivial⟩ rfl, by show gN bs 56 2 - (i + 1) < gN bs 56 2 - i; omega⟩
          have d1 : ((sF bs i 0 4 : Nat) : Int) ≠ 7 := eqF d1
          rw [if_neg (show ¬ sF bs i 0 4 = 7 by omega)] at hR
          refine br_intro (fun d2 => ?_) (fun d2 => ?_)
          · have d2 : ((sF bs i 4 4 : Nat) : Int) > 7 := of_decide_eq_true d2
            rw [if_pos (.inl (by omega))] at hR
            rw [← hR]
            exact And.intro rfl rfl
          have d2 : ¬ ((sF bs i 4 4 : Nat) : Int) > 7 := of_decide_eq_false d2
          refine br_intro (fun d3 => ?_) (fun d3 => ?_)
          · have d3 : ((sF bs i 16 8 : Nat) : Int) < (nx : Int) := of_decide_eq_true d3
            rw [if_pos (.inr (by omega))] at hR
            rw [← hR]
            exact And.intro rfl rfl
          have d3 : ¬ ((sF bs i 16 8 : Nat) : Int) < (nx : Int) := of_decide_eq_false d3
          rw [if_neg (by omega)] at hR
          have hsz : sF bs i 16 8 + sF bs i 40 8 < 18446744073709551616 := by
            have q : ¬ (9223372036854775808 < sF bs i 16 8) := fun q => hbad (.inr (.inr (.inl q)))
            have q2 : ¬ (9223372036854775808 - sF bs i 16 8 < sF bs i 40 8) := fun q => hbad (.inr (.inr (.inr (.inl q))))
            omega
          exact ⟨⟨(i + 1, sF bs i 16 8 + sF bs i 40 8, tl), by show i + 1 ≤ _; omega, by show tl ≤ i + 1; omega, hsz, hR⟩, weak_of ⟨rfl, rfl, congrArg (fun x => AV.t (.int .u64 x)) (u64_nat (n := sF bs i 16 8 + sF bs i 40 8) hsz), rfl, rfl, congrArg (fun x => AV.t (.int .u64 x)) nextI, trivial⟩ rfl, by show gN bs 56 2 - (i + 1) < gN bs 56 2 - i; omega⟩
        · have c7 : ¬ ((sF bs i 48 8 : Nat) : Int) > 1 := of_decide_eq_false c7
          have hbad : ¬ badP bs i := by
            rintro (q | q | q | q | q | q)
            · omega
            · exact hA q
            · omega
            · omega
            · exact q c6
            · have := q.1; omega
          rw [if_neg hbad] at hR
          refine br_intro (fun d1 => ?_) (fun d1 => ?_)
          · have d1 : ((sF bs i 0 4 : Nat) : Int) = 7 := eq_of_beq d1
            rw [if_pos (show sF bs i 0 4 = 7 by omega)] at hR
            exact ⟨⟨(i + 1, nx, tl + 1), by show i + 1 ≤ _; omega, by show tl + 1 ≤ i + 1; omega, h3, hR⟩, weak_of ⟨rfl, rfl, rfl, congrArg (fun x => AV.t (.int .i64 x)) (i64_nat (n := tl + 1) (by omega)), rfl, congrArg (fun x => AV.t (.int .u64 x)) nextI, trivial⟩ rfl, by show gN bs 56 2 - (i + 1) < gN bs 56 2 - i; omega⟩
          have d1 : ((sF bs i 0 4 : Nat) : Int) ≠ 7 := eqF d1
          rw [if_neg (show ¬ sF bs i 0 4 = 7 by omega)] at hR
          refine br_intro (fun d2 => ?_) (fun d2 => ?_)
          · have d2 : ((sF bs i 4 4 : Nat) : Int) > 7 := of_decide_eq_true d2
            rw [if_pos (.inl (by omega))] at hR
            rw [← hR]
            exact And.intro rfl rfl
          have d2 : ¬ ((sF bs i 4 4 : Nat) : Int) > 7 := of_decide_eq_false d2
          refine br_intro (fun d3 => ?_) (fun d3 => ?_)
          · have d3 : ((sF bs i 16 8 : Nat) : Int) < (nx : Int) := of_decide_eq_true d3
            rw [if_pos (.inr (by omega))] at hR
            rw [← hR]
            exact And.intro rfl rfl
          have d3 : ¬ ((sF bs i 16 8 : Nat) : Int) < (nx : Int) := of_decide_eq_false d3
          rw [if_neg (by omega)] at hR
          have hsz : sF bs i 16 8 + sF bs i 40 8 < 18446744073709551616 := by
            have q : ¬ (9223372036854775808 < sF bs i 16 8) := fun q => hbad (.inr (.inr (.inl q)))
            have q2 : ¬ (9223372036854775808 - sF bs i 16 8 < sF bs i 40 8) := fun q => hbad (.inr (.inr (.inr (.inl q))))
            omega
          exact ⟨⟨(i + 1, sF bs i 16 8 + sF bs i 40 8, tl), by show i + 1 ≤ _; omega, by show tl ≤ i + 1; omega, hsz, hR⟩, weak_of ⟨rfl, rfl, congrArg (fun x => AV.t (.int .u64 x)) (u64_nat (n := sF bs i 16 8 + sF bs i 40 8) hsz), rfl, rfl, congrArg (fun x => AV.t (.int .u64 x)) nextI, trivial⟩ rfl, by show gN bs 56 2 - (i + 1) < gN bs 56 2 - i; omega⟩
      · have c2 : ¬ ((sF bs i 32 8 : Nat) : Int) > 0 := of_decide_eq_false c2
        have hA : ¬ (0 < sF bs i 32 8 ∧ ¬ sF bs i 8 8 + sF bs i 32 8 ≤ bs.length) := fun hh => by have := hh.1; omega
        refine br_intro (fun c4 => ?_) (fun c4 => ?_)
        · have c4 : ((sF bs i 16 8 : Nat) : Int) > 9223372036854775808 := of_decide_eq_true c4
          rw [if_pos (.inr (.inr (.inl (by omega))))] at hR
          rw [← hR]
          exact And.intro rfl rfl
        have c4 : ¬ ((sF bs i 16 8 : Nat) : Int) > 9223372036854775808 := of_decide_eq_false c4
        have e5 : IntKind.u64.wrap (9223372036854775808 - ((sF bs i 16 8 : Nat) : Int)) = ((9223372036854775808 - sF bs i 16 8 : Nat) : Int) := by rw [IntKind.wrap_u64]; omega
        refine br_intro (fun c5 => ?_) (fun c5 => ?_)
        · have c5 : ((sF bs i 40 8 : Nat) : Int) > IntKind.u64.wrap (9223372036854775808 - ((sF bs i 16 8 : Nat) : Int)) := of_decide_eq_true c5
          rw [e5] at c5
          rw [if_pos (.inr (.inr (.inr (.inl (by omega)))))] at hR
          rw [← hR]
          exact And.intro rfl rfl
        have c5 : ¬ ((sF bs i 40 8 : Nat) : Int) > IntKind.u64.wrap (9223372036854775808 - ((sF bs i 16 8 : Nat) : Int)) := of_decide_eq_false c5
        rw [e5] at c5
        obtain ⟨pb, hPw, hpb⟩ := power_g (n := sF bs i 48 8) l48
        refine CallS.pure hPw rfl ?_
        refine br_intro (fun c6 => ?_) (fun c6 => ?_)
        · have c6 : (!pb) = true := c6
          rw [if_pos (.inr (.inr (.inr (.inr (.inl (fun hp => by have := hpb.2 hp; rw [this] at c6; cases c6))))))] at hR
          rw [← hR]
          exact And.intro rfl rfl
        have c6 : (!pb) = false := c6
        have c6 : pw (sF bs i 48 8) := hpb.1 (nb' c6)
        refine br_intro (fun c7 => ?_) (fun c7 => ?_)
        · have c7 : ((sF bs i 48 8 : Nat) : Int) > 1 := of_decide_eq_true c7
          have hsm := sub_mod l8 l16 (show 1 < sF bs i 48 8 by omega) c6
          refine ck_intro (show (!decide (((sF bs i 48 8 : Nat) : Int) = 0)) = true by rw [decide_eq_false (by omega)]; rfl) ?_
          refine br_intro (fun c8 => ?_) (fun c8 => ?_)
          · have c8 : (IntKind.u64.wrap (((sF bs i 8 8 : Nat) : Int) - ((sF bs i 16 8 : Nat) : Int))).tmod ((sF bs i 48 8 : Nat) : Int) ≠ 0 := neT c8
            rw [if_pos (.inr (.inr (.inr (.inr (.inr ⟨by omega, fun e => c8 (hsm.2 e)⟩)))))] at hR
            rw [← hR]
            exact And.intro rfl rfl
          have c8 : (IntKind.u64.wrap (((sF bs i 8 8 : Nat) : Int) - ((sF bs i 16 8 : Nat) : Int))).tmod ((sF bs i 48 8 : Nat) : Int) = 0 := neB c8
          have c8 := hsm.1 c8
          have hbad : ¬ badP bs i := by
            rintro (q | q | q | q | q | q)
            · omega
            · exact hA q
            · omega
            · omega
            · exact q c6
            · exact q.2 c8
          rw [if_neg hbad] at hR
          refine br_intro (fun d1 => ?_) (fun d1 => ?_)
          · have d1 : ((sF bs i 0 4 : Nat) : Int) = 7 := eq_of_beq d1
            rw [if_pos (show sF bs i 0 4 = 7 by omega)] at hR
            exact ⟨⟨(i + 1, nx, tl + 1), by show i + 1 ≤ _; omega, by show tl + 1 ≤ i + 1; omega, h3, hR⟩, weak_of ⟨rfl, rfl, rfl, congrArg (fun x => AV.t (.int .i64 x)) (i64_nat (n := tl + 1) (by omega)), rfl, congrArg (fun x => AV.t (.int .u64 x)) nextI, trivial⟩ rfl, by show gN bs 56 2 - (i + 1) < gN bs 56 2 - i; omega⟩
          have d1 : ((sF bs i 0 4 : Nat) : Int) ≠ 7 := eqF d1
          rw [if_neg (show ¬ sF bs i 0 4 = 7 by omega)] at hR
          refine br_intro (fun d2 => ?_) (fun d2 => ?_)
          · have d2 : ((sF bs i 4 4 : Nat) : Int) > 7 := of_decide_eq_true d2
            rw [if_pos (.inl (by omega))] at hR
            rw [← hR]
            exact And.intro rfl rfl
          have d2 : ¬ ((sF bs i 4 4 : Nat) : Int) > 7 := of_decide_eq_false d2
          refine br_intro (fun d3 => ?_) (fun d3 => ?_)
          · have d3 : ((sF bs i 16 8 : Nat) : Int) < (nx : Int) := of_decide_eq_true d3
            rw [if_pos (.inr (by omega))] at hR
            rw [← hR]
            exact And.intro rfl rfl
          have d3 : ¬ ((sF bs i 16 8 : Nat) : Int) < (nx : Int) := of_decide_eq_false d3
          rw [if_neg (by omega)] at hR
          have hsz : sF bs i 16 8 + sF bs i 40 8 < 18446744073709551616 := by
            have q : ¬ (9223372036854775808 < sF bs i 16 8) := fun q => hbad (.inr (.inr (.inl q)))
            have q2 : ¬ (9223372036854775808 - sF bs i 16 8 < sF bs i 40 8) := fun q => hbad (.inr (.inr (.inr (.inl q))))
            omega
          exact ⟨⟨(i + 1, sF bs i 16 8 + sF bs i 40 8, tl), by show i + 1 ≤ _; omega, by show tl ≤ i + 1; omega, hsz, hR⟩, weak_of ⟨rfl, rfl, congrArg (fun x => AV.t (.int .u64 x)) (u64_nat (n := sF bs i 16 8 + sF bs i 40 8) hsz), rfl, rfl, congrArg (fun x => AV.t (.int .u64 x)) nextI, trivial⟩ rfl, by show gN bs 56 2 - (i + 1) < gN bs 56 2 - i; omega⟩
        · have c7 : ¬ ((sF bs i 48 8 : Nat) : Int) > 1 := of_decide_eq_false c7
          have hbad : ¬ badP bs i := by
            rintro (q | q | q | q | q | q)
            · omega
            · exact hA q
            · omega
            · omega
            · exact q c6
            · have := q.1; omega
          rw [if_neg hbad] at hR
          refine br_intro (fun d1 => ?_) (fun d1 => ?_)
          · have d1 : ((sF bs i 0 4 : Nat) : Int) = 7 := eq_of_beq d1
            rw [if_pos (show sF bs i 0 4 = 7 by omega)] at hR
            exact ⟨⟨(i + 1, nx, tl + 1), by show i + 1 ≤ _; omega, by show tl + 1 ≤ i + 1; omega, h3, hR⟩, weak_of ⟨rfl, rfl, rfl, congrArg (fun x => AV.t (.int .i64 x)) (i64_nat (n := tl + 1) (by omega)), rfl, congrArg (fun x => AV.t (.int .u64 x)) nextI, trivial⟩ rfl, by show gN bs 56 2 - (i + 1) < gN bs 56 2 - i; omega⟩
          have d1 : ((sF bs i 0 4 : Nat) : Int) ≠ 7 := eqF d1
          rw [if_neg (show ¬ sF bs i 0 4 = 7 by omega)] at hR
          refine br_intro (fun d2 => ?_) (fun d2 => ?_)
          · have d2 : ((sF bs i 4 4 : Nat) : Int) > 7 := of_decide_eq_true d2
            rw [if_pos (.inl (by omega))] at hR
            rw [← hR]
            exact And.intro rfl rfl
          have d2 : ¬ ((sF bs i 4 4 : Nat) : Int) > 7 := of_decide_eq_false d2
          refine br_intro (fun d3 => ?_) (fun d3 => ?_)
          · have d3 : ((sF bs i 16 8 : Nat) : Int) < (nx : Int) := of_decide_eq_true d3
            rw [if_pos (.inr (by omega))] at hR
            rw [← hR]
            exact And.intro rfl rfl
          have d3 : ¬ ((sF bs i 16 8 : Nat) : Int) < (nx : Int) := of_decide_eq_false d3
          rw [if_neg (by omega)] at hR
          have hsz : sF bs i 16 8 + sF bs i 40 8 < 18446744073709551616 := by
            have q : ¬ (9223372036854775808 < sF bs i 16 8) := fun q => hbad (.inr (.inr (.inl q)))
            have q2 : ¬ (9223372036854775808 - sF bs i 16 8 < sF bs i 40 8) := fun q => hbad (.inr (.inr (.inr (.inl q))))
            omega
          exact ⟨⟨(i + 1, sF bs i 16 8 + sF bs i 40 8, tl), by show i + 1 ≤ _; omega, by show tl ≤ i + 1; omega, hsz, hR⟩, weak_of ⟨rfl, rfl, congrArg (fun x => AV.t (.int .u64 x)) (u64_nat (n := sF bs i 16 8 + sF bs i 40 8) hsz), rfl, rfl, congrArg (fun x => AV.t (.int .u64 x)) nextI, trivial⟩ rfl, by show gN bs 56 2 - (i + 1) < gN bs 56 2 - i; omega⟩
  · have k1 : ((sF bs i 0 4 : Nat) : Int) = 1 := neB k1
    have hk : sF bs i 0 4 = 1 ∨ sF bs i 0 4 = 7 := .inl (by omega)
    rw [if_neg (by omega)] at hR
    refine br_intro (fun c1 => ?_) (fun c1 => ?_)
    · have c1 : ((sF bs i 40 8 : Nat) : Int) < ((sF bs i 32 8 : Nat) : Int) := of_decide_eq_true c1
      rw [if_pos (.inl (by omega))] at hR
      rw [← hR]
      exact And.intro rfl rfl
    have c1 : ¬ ((sF bs i 40 8 : Nat) : Int) < ((sF bs i 32 8 : Nat) : Int) := of_decide_eq_false c1
    refine br_intro (fun c2 => ?_) (fun c2 => ?_)
    · have c2 : ((sF bs i 32 8 : Nat) : Int) > 0 := of_decide_eq_true c2
      refine CallS.pure (within_g hx hb (a := sF bs i 8 8) (n := sF bs i 32 8) l8 l32) rfl ?_
      refine br_intro (fun c3 => ?_) (fun c3 => ?_)
      · have c3 : (!decide (sF bs i 8 8 + sF bs i 32 8 ≤ bs.length)) = true := c3
        have c3 := of_decide_eq_false (nb c3)
        rw [if_pos (.inr (.inl ⟨by omega, c3⟩))] at hR
        rw [← hR]
        exact And.intro rfl rfl
      have c3 : (!decide (sF bs i 8 8 + sF bs i 32 8 ≤ bs.length)) = false := c3
      have c3 := of_decide_eq_true (nb' c3)
      have hA : ¬ (0 < sF bs i 32 8 ∧ ¬ sF bs i 8 8 + sF bs i 32 8 ≤ bs.length) := fun hh => hh.2 c3
      refine br_intro (fun c4 => ?_) (fun c4 => ?_)
      · have c4 : ((sF bs i 16 8 : Nat) : Int) > 9223372036854775808 := of_decide_eq_true c4
        rw [if_pos (.inr (.inr (.inl (by omega))))] at hR
        rw [← hR]
        exact And.intro rfl rfl
      have c4 : ¬ ((sF bs i 16 8 : Nat) : Int) > 9223372036854775808 := of_decide_eq_false c4
      have e5 : IntKind.u64.wrap (9223372036854775808 - ((sF bs i 16 8 : Nat) : Int)) = ((9223372036854775808 - sF bs i 16 8 : Nat) : Int) := by rw [IntKind.wrap_u64]; omega
      refine br_intro (fun c5 => ?_) (fun c5 => ?_)
      · have c5 : ((sF bs i 40 8 : Nat) : Int) > IntKind.u64.wrap (9223372036854775808 - ((sF bs i 16 8 : Nat) : Int)) := of_decide_eq_true c5
        rw [e5] at c5
        rw [if_pos (.inr (.inr (.inr (.inl (by omega)))))] at hR
        rw [← hR]
        exact And.intro rfl rfl
      have c5 : ¬ ((sF bs i 40 8 : Nat) : Int) > IntKind.u64.wrap (9223372036854775808 - ((sF bs i 16 8 : Nat) : Int)) := of_decide_eq_false c5
      rw [e5] at c5
      obtain ⟨pb, hPw, hpb⟩ := power_g (n := sF bs i 48 8) l48
      refine CallS.pure hPw rfl ?_
      refine br_intro (fun c6 => ?_) (fun c6 => ?_)
      · have c6 : (!pb) = true := c6
        rw [if_pos (.inr (.inr (.inr (.inr (.inl (fun hp => by have := hpb.2 hp; rw [this] at c6; cases c6))))))] at hR
        rw [← hR]
        exact And.intro rfl rfl
      have c6 : (!pb) = false := c6
      have c6 : pw (sF bs i 48 8) := hpb.1 (nb' c6)
      refine br_intro (fun c7 => ?_) (fun c7 => ?_)
      · have c7 : ((sF bs i 48 8 : Nat) : Int) > 1 := of_decide_eq_true c7
        have hsm := sub_mod l8 l16 (show 1 < sF bs i 48 8 by omega) c6
        refine ck_intro (show (!decide (((sF bs i 48 8 : Nat) : Int) = 0)) = true by rw [decide_eq_false (by omega)]; rfl) ?_
        refine br_intro (fun c8 => ?_) (fun c8 => ?_)
        · have c8 : (IntKind.u64.wrap (((sF bs i 8 8 : Nat) : Int) - ((sF bs i 16 8 : Nat) : Int))).tmod ((sF bs i 48 8 : Nat) : Int) ≠ 0 := neT c8
          rw [if_pos (.inr (.inr (.inr (.inr (.inr ⟨by omega, fun e => c8 (hsm.2 e)⟩)))))] at hR
          rw [← hR]
          exact And.intro rfl rfl
        have c8 : (IntKind.u64.wrap (((sF bs i 8 8 : Nat) : Int) - ((sF bs i 16 8 : Nat) : Int))).tmod ((sF bs i 48 8 : Nat) : Int) = 0 := neB c8
        have c8 := hsm.1 c8
        have hbad : ¬ badP bs i := by
          rintro (q | q | q | q | q | q)
          · omega
          · exact hA q
          · omega
          · omega
          · exact q c6
          · exact q.2 c8
        rw [if_neg hbad] at hR
        refine br_intro (fun d1 => ?_) (fun d1 => ?_)
        · have d1 : ((sF bs i 0 4 : Nat) : Int) = 7 := eq_of_beq d1
          rw [if_pos (show sF bs i 0 4 = 7 by omega)] at hR
          exact ⟨⟨(i + 1, nx, tl + 1), by show i + 1 ≤ _; omega, by show tl + 1 ≤ i + 1; omega, h3, hR⟩, weak_of ⟨rfl, rfl, rfl, congrArg (fun x => AV.t (.int .i64 x)) (i64_nat (n := tl + 1) (by omega)), rfl, congrArg (fun x => AV.t (.int .u64 x)) nextI, trivial⟩ rfl, by show gN bs 56 2 - (i + 1) < gN bs 56 2 - i; omega⟩
        have d1 : ((sF bs i 0 4 : Nat) : Int) ≠ 7 := eqF d1
        rw [if_neg (show ¬ sF bs i 0 4 = 7 by omega)] at hR
        refine br_intro (fun d2 => ?_) (fun d2 => ?_)
        · have d2 : ((sF bs i 4 4 : Nat) : Int) > 7 := of_decide_eq_true d2
          rw [if_pos (.inl (by omega))] at hR
          rw [← hR]
          exact And.intro rfl rfl
        have d2 : ¬ ((sF bs i 4 4 : Nat) : Int) > 7 := of_decide_eq_false d2
        refine br_intro (fun d3 => ?_) (fun d3 => ?_)
        · have d3 : ((sF bs i 16 8 : Nat) : Int) < (nx : Int) := of_decide_eq_true d3
          rw [if_pos (.inr (by omega))] at hR
          rw [← hR]
          exact And.intro rfl rfl
        have d3 : ¬ ((sF bs i 16 8 : Nat) : Int) < (nx : Int) := of_decide_eq_false d3
        rw [if_neg (by omega)] at hR
        have hsz : sF bs i 16 8 + sF bs i 40 8 < 18446744073709551616 := by
          have q : ¬ (9223372036854775808 < sF bs i 16 8) := fun q => hbad (.inr (.inr (.inl q)))
          have q2 : ¬ (9223372036854775808 - sF bs i 16 8 < sF bs i 40 8) := fun q => hbad (.inr (.inr (.inr (.inl q))))
          omega
        exact ⟨⟨(i + 1, sF bs i 16 8 + sF bs i 40 8, tl), by show i + 1 ≤ _; omega, by show tl ≤ i + 1; omega, hsz, hR⟩, weak_of ⟨rfl, rfl, congrArg (fun x => AV.t (.int .u64 x)) (u64_nat (n := sF bs i 16 8 + sF bs i 40 8) hsz), rfl, rfl, congrArg (fun x => AV.t (.int .u64 x)) nextI, trivial⟩ rfl, by show gN bs 56 2 - (i + 1) < gN bs 56 2 - i; omega⟩
      · have c7 : ¬ ((sF bs i 48 8 : Nat) : Int) > 1 := of_decide_eq_false c7
        have hbad : ¬ badP bs i := by
          rintro (q | q | q | q | q | q)
          · omega
          · exact hA q
          · omega
          · omega
          · exact q c6
          · have := q.1; omega
        rw [if_neg hbad] at hR
        refine br_intro (fun d1 => ?_) (fun d1 => ?_)
        · have d1 : ((sF bs i 0 4 : Nat) : Int) = 7 := eq_of_beq d1
          rw [if_pos (show sF bs i 0 4 = 7 by omega)] at hR
          exact ⟨⟨(i + 1, nx, tl + 1), by show i + 1 ≤ _; omega, by show tl + 1 ≤ i + 1; omega, h3, hR⟩, weak_of ⟨rfl, rfl, rfl, congrArg (fun x => AV.t (.int .i64 x)) (i64_nat (n := tl + 1) (by omega)), rfl, congrArg (fun x => AV.t (.int .u64 x)) nextI, trivial⟩ rfl, by show gN bs 56 2 - (i + 1) < gN bs 56 2 - i; omega⟩
        have d1 : ((sF bs i 0 4 : Nat) : Int) ≠ 7 := eqF d1
        rw [if_neg (show ¬ sF bs i 0 4 = 7 by omega)] at hR
        refine br_intro (fun d2 => ?_) (fun d2 => ?_)
        · have d2 : ((sF bs i 4 4 : Nat) : Int) > 7 := of_decide_eq_true d2
          rw [if_pos (.inl (by omega))] at hR
          rw [← hR]
          exact And.intro rfl rfl
        have d2 : ¬ ((sF bs i 4 4 : Nat) : Int) > 7 := of_decide_eq_false d2
        refine br_intro (fun d3 => ?_) (fun d3 => ?_)
        · have d3 : ((sF bs i 16 8 : Nat) : Int) < (nx : Int) := of_decide_eq_true d3
          rw [if_pos (.inr (by omega))] at hR
          rw [← hR]
          exact And.intro rfl rfl
        have d3 : ¬ ((sF bs i 16 8 : Nat) : Int) < (nx : Int) := of_decide_eq_false d3
        rw [if_neg (by omega)] at hR
        have hsz : sF bs i 16 8 + sF bs i 40 8 < 18446744073709551616 := by
          have q : ¬ (9223372036854775808 < sF bs i 16 8) := fun q => hbad (.inr (.inr (.inl q)))
          have q2 : ¬ (9223372036854775808 - sF bs i 16 8 < sF bs i 40 8) := fun q => hbad (.inr (.inr (.inr (.inl q))))
          omega
        exact ⟨⟨(i + 1, sF bs i 16 8 + sF bs i 40 8, tl), by show i + 1 ≤ _; omega, by show tl ≤ i + 1; omega, hsz, hR⟩, weak_of ⟨rfl, rfl, congrArg (fun x => AV.t (.int .u64 x)) (u64_nat (n := sF bs i 16 8 + sF bs i 40 8) hsz), rfl, rfl, congrArg (fun x => AV.t (.int .u64 x)) nextI, trivial⟩ rfl, by show gN bs 56 2 - (i + 1) < gN bs 56 2 - i; omega⟩
    · have c2 : ¬ ((sF bs i 32 8 : Nat) : Int) > 0 := of_decide_eq_false c2
      have hA : ¬ (0 < sF bs i 32 8 ∧ ¬ sF bs i 8 8 + sF bs i 32 8 ≤ bs.length) := fun hh => by have := hh.1; omega
      refine br_intro (fun c4 => ?_) (fun c4 => ?_)
      · have c4 : ((sF bs i 16 8 : Nat) : Int) > 9223372036854775808 := of_decide_eq_true c4
        rw [if_pos (.inr (.inr (.inl (by omega))))] at hR
        rw [← hR]
        exact And.intro rfl rfl
      have c4 : ¬ ((sF bs i 16 8 : Nat) : Int) > 9223372036854775808 := of_decide_eq_false c4
      have e5 : IntKind.u64.wrap (9223372036854775808 - ((sF bs i 16 8 : Nat) : Int)) = ((9223372036854775808 - sF bs i 16 8 : Nat) : Int) := by rw [IntKind.wrap_u64]; omega
      refine br_intro (fun c5 => ?_) (fun c5 => ?_)
      · have c5 : ((sF bs i 40 8 : Nat) : Int) > IntKind.u64.wrap (9223372036854775808 - ((sF bs i 16 8 : Nat) : Int)) := of_decide_eq_true c5
        rw [e5] at c5
        rw [if_pos (.inr (.inr (.inr (.inl (by omega)))))] at hR
        rw [← hR]
        exact And.intro rfl rfl
      have c5 : ¬ ((sF bs i 40 8 : Nat) : Int) > IntKind.u64.wrap (9223372036854775808 - ((sF bs i 16 8 : Nat) : Int)) := of_decide_eq_false c5
      rw [e5] at c5
      obtain ⟨pb, hPw, hpb⟩ := power_g (n := sF bs i 48 8) l48
      refine CallS.pure hPw rfl ?_
      refine br_intro (fun c6 => ?_) (fun c6 => ?_)
      · have c6 : (!pb) = true := c6
        rw [if_pos (.inr (.inr (.inr (.inr (.inl (fun hp => by have := hpb.2 hp; rw [this] at c6; cases c6))))))] at hR
        rw [← hR]
        exact And.intro rfl rfl
      have c6 : (!pb) = false := c6
      have c6 : pw (sF bs i 48 8) := hpb.1 (nb' c6)
      refine br_intro (fun c7 => ?_) (fun c7 => ?_)
      · have c7 : ((sF bs i 48 8 : Nat) : Int) > 1 := of_decide_eq_true c7
        have hsm := sub_mod l8 l16 (show 1 < sF bs i 48 8 by omega) c6
        refine ck_intro (show (!decide (((sF bs i 48 8 : Nat) : Int) = 0)) = true by rw [decide_eq_false (by omega)]; rfl) ?_
        refine br_intro (fun c8 => ?_) (fun c8 => ?_)
        · have c8 : (IntKind.u64.wrap (((sF bs i 8 8 : Nat) : Int) - ((sF bs i 16 8 : Nat) : Int))).tmod ((sF bs i 48 8 : Nat) : Int) ≠ 0 := neT c8
          rw [if_pos (.inr (.inr (.inr (.inr (.inr ⟨by omega, fun e => c8 (hsm.2 e)⟩)))))] at hR
          rw [← hR]
          exact And.intro rfl rfl
        have c8 : (IntKind.u64.wrap (((sF bs i 8 8 : Nat) : Int) - ((sF bs i 16 8 : Nat) : Int))).tmod ((sF bs i 48 8 : Nat) : Int) = 0 := neB c8
        have c8 := hsm.1 c8
        have hbad : ¬ badP bs i := by
          rintro (q | q | q | q | q | q)
          · omega
          · exact hA q
          · omega
          · omega
          · exact q c6
          · exact q.2 c8
        rw [if_neg hbad] at hR
        refine br_intro (fun d1 => ?_) (fun d1 => ?_)
        · have d1 : ((sF bs i 0 4 : Nat) : Int) = 7 := eq_of_beq d1
          rw [if_pos (show sF bs i 0 4 = 7 by omega)] at hR
          exact ⟨⟨(i + 1, nx, tl + 1), by show i + 1 ≤ _; omega, by show tl + 1 ≤ i + 1; omega, h3, hR⟩, weak_of ⟨rfl, rfl, rfl, congrArg (fun x => AV.t (.int .i64 x)) (i64_nat (n := tl + 1) (by omega)), rfl, congrArg (fun x => AV.t (.int .u64 x)) nextI, trivial⟩ rfl, by show gN bs 56 2 - (i + 1) < gN bs 56 2 - i; omega⟩
        have d1 : ((sF bs i 0 4 : Nat) : Int) ≠ 7 := eqF d1
        rw [if_neg (show ¬ sF bs i 0 4 = 7 by omega)] at hR
        refine br_intro (fun d2 => ?_) (fun d2 => ?_)
        · have d2 : ((sF bs i 4 4 : Nat) : Int) > 7 := of_decide_eq_true d2
          rw [if_pos (.inl (by omega))] at hR
          rw [← hR]
          exact And.intro rfl rfl
        have d2 : ¬ ((sF bs i 4 4 : Nat) : Int) > 7 := of_decide_eq_false d2
        refine br_intro (fun d3 => ?_) (fun d3 => ?_)
        · have d3 : ((sF bs i 16 8 : Nat) : Int) < (nx : Int) := of_decide_eq_true d3
          rw [if_pos (.inr (by omega))] at hR
          rw [← hR]
          exact And.intro rfl rfl
        have d3 : ¬ ((sF bs i 16 8 : Nat) : Int) < (nx : Int) := of_decide_eq_false d3
        rw [if_neg (by omega)] at hR
        have hsz : sF bs i 16 8 + sF bs i 40 8 < 18446744073709551616 := by
          have q : ¬ (9223372036854775808 < sF bs i 16 8) := fun q => hbad (.inr (.inr (.inl q)))
          have q2 : ¬ (9223372036854775808 - sF bs i 16 8 < sF bs i 40 8) := fun q => hbad (.inr (.inr (.inr (.inl q))))
          omega
        exact ⟨⟨(i + 1, sF bs i 16 8 + sF bs i 40 8, tl), by show i + 1 ≤ _; omega, by show tl ≤ i + 1; omega, hsz, hR⟩, weak_of ⟨rfl, rfl, congrArg (fun x => AV.t (.int .u64 x)) (u64_nat (n := sF bs i 16 8 + sF bs i 40 8) hsz), rfl, rfl, congrArg (fun x => AV.t (.int .u64 x)) nextI, trivial⟩ rfl, by show gN bs 56 2 - (i + 1) < gN bs 56 2 - i; omega⟩
      · have c7 : ¬ ((sF bs i 48 8 : Nat) : Int) > 1 := of_decide_eq_false c7
        have hbad : ¬ badP bs i := by
          rintro (q | q | q | q | q | q)
          · omega
          · exact hA q
          · omega
          · omega
          · exact q c6
          · have := q.1; omega
        rw [if_neg hbad] at hR
        refine br_intro (fun d1 => ?_) (fun d1 => ?_)
        · have d1 : ((sF bs i 0 4 : Nat) : Int) = 7 := eq_of_beq d1
          rw [if_pos (show sF bs i 0 4 = 7 by omega)] at hR
          exact ⟨⟨(i + 1, nx, tl + 1), by show i + 1 ≤ _; omega, by show tl + 1 ≤ i + 1; omega, h3, hR⟩, weak_of ⟨rfl, rfl, rfl, congrArg (fun x => AV.t (.int .i64 x)) (i64_nat (n := tl + 1) (by omega)), rfl, congrArg (fun x => AV.t (.int .u64 x)) nextI, trivial⟩ rfl, by show gN bs 56 2 - (i + 1) < gN bs 56 2 - i; omega⟩
        have d1 : ((sF bs i 0 4 : Nat) : Int) ≠ 7 := eqF d1
        rw [if_neg (show ¬ sF bs i 0 4 = 7 by omega)] at hR
        refine br_intro (fun d2 => ?_) (fun d2 => ?_)
        · have d2 : ((sF bs i 4 4 : Nat) : Int) > 7 := of_decide_eq_true d2
          rw [if_pos (.inl (by omega))] at hR
          rw [← hR]
          exact And.intro rfl rfl
        have d2 : ¬ ((sF bs i 4 4 : Nat) : Int) > 7 := of_decide_eq_false d2
        refine br_intro (fun d3 => ?_) (fun d3 => ?_)
        · have d3 : ((sF bs i 16 8 : Nat) : Int) < (nx : Int) := of_decide_eq_true d3
          rw [if_pos (.inr (by omega))] at hR
          rw [← hR]
          exact And.intro rfl rfl
        have d3 : ¬ ((sF bs i 16 8 : Nat) : Int) < (nx : Int) := of_decide_eq_false d3
        rw [if_neg (by omega)] at hR
        have hsz : sF bs i 16 8 + sF bs i 40 8 < 18446744073709551616 := by
          have q : ¬ (9223372036854775808 < sF bs i 16 8) := fun q => hbad (.inr (.inr (.inl q)))
          have q2 : ¬ (9223372036854775808 - sF bs i 16 8 < sF bs i 40 8) := fun q => hbad (.inr (.inr (.inr (.inl q))))
          omega
        exact ⟨⟨(i + 1, sF bs i 16 8 + sF bs i 40 8, tl), by show i + 1 ≤ _; omega, by show tl ≤ i + 1; omega, hsz, hR⟩, weak_of ⟨rfl, rfl, congrArg (fun x => AV.t (.int .u64 x)) (u64_nat (n := sF bs i 16 8 + sF bs i 40 8) hsz), rfl, rfl, congrArg (fun x => AV.t (.int .u64 x)) nextI, trivial⟩ rfl, by show gN bs 56 2 - (i + 1) < gN bs 56 2 - i; omega⟩

end Go.Proofs.YthpkehhghcpolaaDoor
