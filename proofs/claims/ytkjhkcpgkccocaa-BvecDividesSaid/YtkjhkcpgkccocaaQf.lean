/-
  The laws' walks: quotient, divisor and rest make the dividend.
-/
import Derived.Test.YtkjhkcpgkccocaaQa
namespace Go.Proofs.Ytkjhkcpgkccocaa
open Go.IntWalk
set_option maxRecDepth 100000
set_option linter.unusedVariables false
set_option linter.unusedSimpArgs false

theorem bin_val {op : Int} {w n n2 : Nat} (hw : 1 ≤ w) (hw2 : w ≤ 128) (h : n < 2 ^ w) (h2 : n2 < 2 ^ w) (h7 : ¬ (op = 7 ∨ op = 8 ∨ op = 9)) (h17 : ¬ op = 17) : binT op w n w n2 = rbinW op w n n2 := by
  rw [bin_law, rbinT, if_pos ⟨⟨by omega, h⟩, by omega, h2⟩, if_neg h7, if_neg h17, if_pos rfl, Int.toNat_natCast]

theorem bin_at {op : Int} {w n n2 v : Nat} (hw : 1 ≤ w) (hw2 : w ≤ 128) (h : n < 2 ^ w) (h2 : n2 < 2 ^ w) (h7 : ¬ (op = 7 ∨ op = 8 ∨ op = 9)) (h17 : ¬ op = 17) (hv : rbinW op w n n2 = bt w v) :
    Runs Try.prog 14 [.int .i64 op, bt w n, bt w n2] (.t (bt w v)) := by
  have hP := pow_le128 hw2
  have := bin_runs op w n w n2 (by omega) (by omega)
  rw [bin_val hw hw2 h h2 h7 h17, hv] at this
  exact this

theorem cong {q q' b b' r r' P : Int} (hq : q % P = q' % P) (hb : b % P = b' % P) (hr : r % P = r' % P) : (q * b + r) % P = (q' * b' + r') % P := by
  rw [Int.add_emod, Int.mul_emod, hq, hb, hr, ← Int.mul_emod, ← Int.add_emod]

theorem negW_cong {z w : Nat} : ((negW z w : Nat) : Int) % ((2 ^ w : Nat) : Int) = (-(z : Int)) % ((2 ^ w : Nat) : Int) := by
  have h := Nat.mod_lt z (Nat.pow_pos (n := w) (show 0 < 2 by omega))
  have e := Nat.div_add_mod z (2 ^ w)
  rw [negW, Int.natCast_emod, Int.emod_emod_of_dvd _ (Int.dvd_refl _)]
  have e2 : ((2 ^ w - z % 2 ^ w : Nat) : Int) = -(z : Int) + ((2 ^ w : Nat) : Int) * (1 + ((z / 2 ^ w : Nat) : Int)) := by
    rw [Int.mul_add, ← Int.natCast_mul]
    generalize 2 ^ w * (z / 2 ^ w) = x at *
    omega
  rw [e2, Int.add_mul_emod_self_left]

theorem div_back {w n n2 : Nat} (s : Bool) (h : n < 2 ^ w) (h2 : n2 < 2 ^ w) (h0 : ¬ n2 = 0) : (rquo s n n2 w % 2 ^ w * n2 % 2 ^ w + rrem s n n2 w % 2 ^ w) % 2 ^ w = n := by
  have hr : (rquo s n n2 w % 2 ^ w * n2 % 2 ^ w + rrem s n n2 w % 2 ^ w) % 2 ^ w = (rquo s n n2 w * n2 + rrem s n n2 w) % 2 ^ w := by
    rw [← Nat.add_mod, Nat.add_mod (rquo s n n2 w % 2 ^ w * n2), Nat.mod_mul_mod, ← Nat.add_mod]
  rw [hr]
  have key : (((rquo s n n2 w * n2 + rrem s n n2 w) % 2 ^ w : Nat) : Int) = (n : Int) % ((2 ^ w : Nat) : Int) := by
    rw [Int.natCast_emod, Int.natCast_add, Int.natCast_mul, rquo, rrem, if_neg h0, if_neg h0]
    have ex : ∀ (m : Nat), (rsign s m w = true → ((rabs s m w : Nat) : Int) % ((2 ^ w : Nat) : Int) = (-(m : Int)) % ((2 ^ w : Nat) : Int)) ∧ (rsign s m w = false → rabs s m w = m) := fun m =>
      ⟨fun hs => by rw [rabs, if_pos hs]; exact negW_cong, fun hs => by rw [rabs, hs]; rfl⟩
    have hd : ((rabs s n w / rabs s n2 w : Nat) : Int) * ((rabs s n2 w : Nat) : Int) + ((rabs s n w % rabs s n2 w : Nat) : Int) = ((rabs s n w : Nat) : Int) := by
      rw [← Int.natCast_mul, ← Int.natCast_add, Nat.div_add_mod']
    have neg2 : ∀ {a b P : Int}, a % P = (-b) % P → b % P = (-a) % P := fun {a b P} hh => by
      have := Int.emod_emod_of_dvd a (Int.dvd_refl P)
      have h1 := cong (q := -1) (q' := -1) (b := a) (b' := -b) (r := 0) (r' := 0) (P := P) rfl hh rfl
      rw [Int.add_zero, Int.add_zero, Int.neg_mul_neg, Int.one_mul, Int.neg_mul, Int.one_mul] at h1
      exact h1.symm
    cases ha : rsign s n w <;> cases hb : rsign s n2 w
    · have ea := (ex n).2 ha
      have eb := (ex n2).2 hb
      rw [if_neg (by simp), if_neg (by simp)]
      rw [eb] at hd ⊢
      rw [hd, ea]
    · have ea := (ex n).2 ha
      have eb := neg2 ((ex n2).1 hb)
      rw [if_pos (by simp), if_neg (by simp)]
      rw [cong negW_cong eb rfl, Int.neg_mul_neg, hd, ea]
    · have ea := neg2 ((ex n).1 ha)
      have eb := (ex n2).2 hb
      rw [if_pos (by simp), if_pos rfl]
      rw [eb] at hd ⊢
      rw [cong negW_cong rfl negW_cong, ea, ← hd, Int.neg_mul, Int.neg_add]
    · have ea := neg2 ((ex n).1 ha)
      have eb := neg2 ((ex n2).1 hb)
      rw [if_neg (by simp), if_pos rfl]
      rw [cong rfl eb negW_cong, ea, ← hd, Int.mul_neg, Int.neg_add]
  have : (rquo s n n2 w * n2 + rrem s n n2 w) % 2 ^ w = n % 2 ^ w := by
    have k2 : ((n % 2 ^ w : Nat) : Int) = (n : Int) % ((2 ^ w : Nat) : Int) := Int.natCast_emod _ _
    omega
  rw [this, Nat.mod_eq_of_lt h]

theorem divides_good (w n n2 : Nat) (h1 : isN w n) (h2 : isN w n2) : Runs Try.prog 5 [bt w n, bt w n2] (.t (.bool true)) := by
  have hw := h1.1
  have hlt : n < 2 ^ w := h1.2
  have hlt2 : n2 < 2 ^ w := h2.2
  have hn := isN_lt h1
  have hn2 := isN_lt h2
  have ha : 1 ≤ w := by omega
  have hb : w ≤ 128 := by omega
  have lt : ∀ x, x % 2 ^ w < 2 ^ w := fun x => Nat.mod_lt _ (Nat.pow_pos (by omega))
  refine Runs.of_call ?_ rfl
  refine CallS.of_fn tab_ok reg_ok Try.func5 rfl rfl ?_
  refine CallS.pure alive_runs rfl ?_
  by_cases h0 : n2 = 0
  · have zf : Runs Try.prog 17 [.int .i64 (w : Int), .int .i64 (-1)] (.t (bt w ((2 ^ w - 1) % 2 ^ w))) := fa (by omega) (by
      rw [makeT, if_pos (by omega), msk hb]
      congr 1
      obtain ⟨Q, hQ⟩ := p128i hb
      have := Nat.pow_pos (n := w) (show 0 < 2 by omega)
      refine mod_of_int (z := -1) Q 1 ?_ ?_
      · rw [hQ]; rfl
      · omega)
    have z10 := bin_at (op := 10) (v := (2 ^ w - 1) % 2 ^ w) ha hb hlt hlt2 (by omega) (by omega) (by show bt w (rquo false n n2 w % 2 ^ w) = _; rw [rquo, if_pos h0])
    have z11 := bin_at (op := 11) (v := n) ha hb hlt hlt2 (by omega) (by omega) (by show bt w (rrem false n n2 w % 2 ^ w) = _; rw [rrem, if_pos h0, Nat.mod_eq_of_lt hlt])
    have z12 := bin_at (op := 12) (v := (2 ^ w - 1) % 2 ^ w) ha hb hlt hlt2 (by omega) (by omega) (by show bt w (rquo true n n2 w % 2 ^ w) = _; rw [rquo, if_pos h0])
    have z13 := bin_at (op := 13) (v := n) ha hb hlt hlt2 (by omega) (by omega) (by show bt w (rrem true n n2 w % 2 ^ w) = _; rw [rrem, if_pos h0, Nat.mod_eq_of_lt hlt])
    subst h0
    refine CallS.snap (normal_runs w n hn) rfl rfl ?_
    refine br_intro (fun h => absurd h (by simp [h1])) (fun _ => ?_)
    refine CallS.snap (normal_runs w 0 hn2) rfl rfl ?_
    refine br_intro (fun h => absurd h (by simp [h2])) (fun _ => ?_)
    refine br_intro (fun h => absurd h (by simp)) (fun _ => ?_)
    refine loop_un 3 ?_
    refine draw_intro [(0, false), (1, false), (2, false), (4, false), (5, false), (6, false), (7, false), (9, false), (10, false), (3, false), (8, false), (11, true), (12, true)] (by decide +kernel) ?_
    refine CallS.snap z10 rfl rfl (And.intro (LeX.append _ _ _) ?_)
    refine CallS.snap z11 rfl rfl (And.intro (LeX.append _ _ _) ?_)
    refine draw_intro [(0, false), (1, false), (2, false), (3, false), (4, false), (5, false), (6, false), (7, false), (8, false), (9, false)] (by decide +kernel) ?_
    refine CallS.snap zf rfl rfl (And.intro (LeX.append _ _ _) ?_)
    refine And.intro eq25 (opt_intro (a := true) (congrArg some (eqSelf _ _)) ?_)
    refine And.intro eq25 (opt_intro (a := true) (congrArg some (eqSelf _ _)) ?_)
    refine draw_intro [(0, false), (1, false), (2, false), (4, false), (5, false), (6, false), (7, false), (9, false), (10, false), (3, false), (8, false), (11, true), (12, true)] (by decide +kernel) ?_
    refine CallS.snap z12 rfl rfl (And.intro (LeX.append _ _ _) ?_)
    refine CallS.snap z13 rfl rfl (And.intro (LeX.append _ _ _) ?_)
    refine draw_intro [(0, false), (1, false), (2, false), (3, false), (4, false), (5, false), (6, false), (7, false), (8, false), (9, false)] (by decide +kernel) ?_
    refine CallS.snap zf rfl rfl (And.intro (LeX.append _ _ _) ?_)
    refine And.intro eq25 (opt_intro (a := true) (congrArg some (eqSelf _ _)) ?_)
    refine And.intro eq25 (opt_intro (a := true) (congrArg some (eqSelf _ _)) ?_)
    refine draw_intro [(0, false), (1, false), (2, false), (3, false), (4, false), (5, false), (6, false), (7, false), (8, false), (9, false), (10, false), (12, false), (11, false), (13, true), (14, false), (15, false), (16, false), (17, true)] (by decide +kernel) ?_
    refine And.intro (LeX.refl _ _) ?_
    exact And.intro rfl rfl
  · have uq := bin_at (op := 10) (v := rquo false n n2 w % 2 ^ w) ha hb hlt hlt2 (by omega) (by omega) rfl
    have ur := bin_at (op := 11) (v := rrem false n n2 w % 2 ^ w) ha hb hlt hlt2 (by omega) (by omega) rfl
    have sq := bin_at (op := 12) (v := rquo true n n2 w % 2 ^ w) ha hb hlt hlt2 (by omega) (by omega) rfl
    have sr := bin_at (op := 13) (v := rrem true n n2 w % 2 ^ w) ha hb hlt hlt2 (by omega) (by omega) rfl
    have um := bin_at (op := 3) (v := rquo false n n2 w % 2 ^ w * n2 % 2 ^ w) ha hb (lt (rquo false n n2 w)) hlt2 (by omega) (by omega) rfl
    have sm := bin_at (op := 3) (v := rquo true n n2 w % 2 ^ w * n2 % 2 ^ w) ha hb (lt (rquo true n n2 w)) hlt2 (by omega) (by omega) rfl
    have ua := bin_at (op := 1) (v := n) ha hb (lt (rquo false n n2 w % 2 ^ w * n2)) (lt (rrem false n n2 w)) (by omega) (by omega) (by
      show bt w ((rquo false n n2 w % 2 ^ w * n2 % 2 ^ w + rrem false n n2 w % 2 ^ w + 0) % 2 ^ w) = _
      rw [Nat.add_zero, div_back false hlt hlt2 h0])
    have sa := bin_at (op := 1) (v := n) ha hb (lt (rquo true n n2 w % 2 ^ w * n2)) (lt (rrem true n n2 w)) (by omega) (by omega) (by
      show bt w ((rquo true n n2 w % 2 ^ w * n2 % 2 ^ w + rrem true n n2 w % 2 ^ w + 0) % 2 ^ w) = _
      rw [Nat.add_zero, div_back true hlt hlt2 h0])
    have hrem : rrem false n n2 w % 2 ^ w < n2 := by
      have : rrem false n n2 w = n % n2 := by rw [rrem, if_neg h0]; rfl
      rw [this]
      exact Nat.lt_of_le_of_lt (Nat.mod_le _ _) (Nat.mod_lt _ (by omega))
    have lt1 : Runs Try.prog 14 [.int .i64 15, bt w (rrem false n n2 w % 2 ^ w), bt w n2] (.t (bt 1 1)) := by
      have hP := pow_le128 hb
      have l := lt (rrem false n n2 w)
      have := bin_runs 15 w (rrem false n n2 w % 2 ^ w) w n2 (by omega) hn2
      rw [bin_val ha hb l hlt2 (by omega) (by omega)] at this
      have e : rbinW 15 w (rrem false n n2 w % 2 ^ w) n2 = bt 1 (if decide (rrem false n n2 w % 2 ^ w < n2) then 1 else 0) := rfl
      rw [e, decide_eq_true hrem, if_pos rfl] at this
      exact this
    by_cases hh : n2 / 18446744073709551616 = 0
    · refine CallS.snap (normal_runs w n hn) rfl rfl ?_
      refine br_intro (fun h => absurd h (by simp [h1])) (fun _ => ?_)
      refine CallS.snap (normal_runs w n2 hn2) rfl rfl ?_
      refine br_intro (fun h => absurd h (by simp [h2])) (fun _ => ?_)
      refine br_intro (fun h => absurd h (by simp)) (fun _ => ?_)
      refine loop_un 3 ?_
      refine draw_intro [(0, false), (1, false), (2, false), (4, false), (5, false), (6, false), (7, false), (9, false), (10, false), (3, false), (8, false), (11, true), (12, true)] (by decide +kernel) ?_
      refine CallS.snap uq rfl rfl (And.intro (LeX.append _ _ _) ?_)
      refine CallS.snap ur rfl rfl (And.intro (LeX.append _ _ _) ?_)
      refine br_intro (fun _ => ?_) (fun h => absurd (ne_of_beq_false h) (by omega))
      refine br_intro (fun h => absurd (eq_of_beq h) (by omega)) (fun _ => ?_)
      refine draw_intro [(0, false), (1, false), (3, false), (5, false), (2, false), (4, false), (6, false)] (by decide +kernel) ?_
      refine CallS.snap um rfl rfl (And.intro (LeX.append _ _ _) ?_)
      refine CallS.snap ua rfl rfl (And.intro (LeX.append _ _ _) ?_)
      refine And.intro eq25 (opt_intro (a := true) (congrArg some (eqSelf _ _)) ?_)
      refine draw_intro [(0, false), (1, false), (2, false), (4, false), (5, false), (6, false), (7, false), (9, false), (10, false), (3, false), (8, false), (11, true), (12, true)] (by decide +kernel) ?_
      refine CallS.snap sq rfl rfl (And.intro (LeX.append _ _ _) ?_)
      refine CallS.snap sr rfl rfl (And.intro (LeX.append _ _ _) ?_)
      refine br_intro (fun _ => ?_) (fun h => absurd (ne_of_beq_false h) (by omega))
      refine br_intro (fun h => absurd (eq_of_beq h) (by omega)) (fun _ => ?_)
      refine draw_intro [(0, false), (1, false), (3, false), (5, false), (2, false), (4, false), (6, false)] (by decide +kernel) ?_
      refine CallS.snap sm rfl rfl (And.intro (LeX.append _ _ _) ?_)
      refine CallS.snap sa rfl rfl (And.intro (LeX.append _ _ _) ?_)
      refine And.intro eq25 (opt_intro (a := true) (congrArg some (eqSelf _ _)) ?_)
      refine draw_intro [(0, false), (1, false), (2, false), (3, false), (4, false), (5, false), (6, false), (7, false), (8, false), (9, false), (10, false), (12, false), (11, false), (13, true), (14, false), (15, false), (16, false), (17, true)] (by decide +kernel) ?_
      refine br_intro (fun _ => ?_) (fun h => absurd (ne_of_beq_false h) (by omega))
      refine br_intro (fun h => absurd (eq_of_beq h) (by omega)) (fun _ => ?_)
      refine CallS.snap ur rfl rfl (And.intro (LeX.append _ _ _) ?_)
      refine CallS.snap lt1 rfl rfl ?_
      exact And.intro rfl rfl
    · refine CallS.snap (normal_runs w n hn) rfl rfl ?_
      refine br_intro (fun h => absurd h (by simp [h1])) (fun _ => ?_)
      refine CallS.snap (normal_runs w n2 hn2) rfl rfl ?_
      refine br_intro (fun h => absurd h (by simp [h2])) (fun _ => ?_)
      refine br_intro (fun h => absurd h (by simp)) (fun _ => ?_)
      refine loop_un 3 ?_
      refine draw_intro [(0, false), (1, false), (2, false), (4, false), (5, false), (6, false), (7, false), (9, false), (10, false), (3, false), (8, false), (11, true), (12, true)] (by decide +kernel) ?_
      refine CallS.snap uq rfl rfl (And.intro (LeX.append _ _ _) ?_)
      refine CallS.snap ur rfl rfl (And.intro (LeX.append _ _ _) ?_)
      refine br_intro (fun h => absurd (eq_of_beq h) (by omega)) (fun _ => ?_)
      refine draw_intro [(0, false), (1, false), (3, false), (5, false), (2, false), (4, false), (6, false)] (by decide +kernel) ?_
      refine CallS.snap um rfl rfl (And.intro (LeX.append _ _ _) ?_)
      refine CallS.snap ua rfl rfl (And.intro (LeX.append _ _ _) ?_)
      refine And.intro eq25 (opt_intro (a := true) (congrArg some (eqSelf _ _)) ?_)
      refine draw_intro [(0, false), (1, false), (2, false), (4, false), (5, false), (6, false), (7, false), (9, false), (10, false), (3, false), (8, false), (11, true), (12, true)] (by decide +kernel) ?_
      refine CallS.snap sq rfl rfl (And.intro (LeX.append _ _ _) ?_)
      refine CallS.snap sr rfl rfl (And.intro (LeX.append _ _ _) ?_)
      refine br_intro (fun h => absurd (eq_of_beq h) (by omega)) (fun _ => ?_)
      refine draw_intro [(0, false), (1, false), (3, false), (5, false), (2, false), (4, false), (6, false)] (by decide +kernel) ?_
      refine CallS.snap sm rfl rfl (And.intro (LeX.append _ _ _) ?_)
      refine CallS.snap sa rfl rfl (And.intro (LeX.append _ _ _) ?_)
      refine And.intro eq25 (opt_intro (a := true) (congrArg some (eqSelf _ _)) ?_)
      refine draw_intro [(0, false), (1, false), (2, false), (3, false), (4, false), (5, false), (6, false), (7, false), (8, false), (9, false), (10, false), (12, false), (11, false), (13, true), (14, false), (15, false), (16, false), (17, true)] (by decide +kernel) ?_
      refine br_intro (fun h => absurd (eq_of_beq h) (by omega)) (fun _ => ?_)
      refine CallS.snap ur rfl rfl (And.intro (LeX.append _ _ _) ?_)
      refine CallS.snap lt1 rfl rfl ?_
      exact And.intro rfl rfl

theorem divides_runs (w : Int) (n : Nat) (w2 : Int) (n2 : Nat) (hn : n < 2 ^ 128) (hn2 : n2 < 2 ^ 128) : Runs Try.prog 5 [bt w n, bt w2 n2] (.t (.bool true)) := by
  by_cases g : isN w n ∧ isN w2 n2 ∧ w = w2
  · obtain ⟨h1, h2, rfl⟩ := g
    have hw := h1.1
    obtain ⟨w, rfl⟩ := Int.eq_ofNat_of_zero_le (show 0 ≤ w by omega)
    exact divides_good w n n2 h1 h2
  · refine Runs.of_call ?_ rfl
    refine CallS.of_fn tab_ok reg_ok Try.func5 rfl rfl ?_
    refine CallS.pure alive_runs rfl ?_
    have c0 := bin_runs 10 w n w2 n2 hn hn2
    have e0 : binT 10 w n w2 n2 = bt 0 0 := by
      rw [binT]
      by_cases h : isN w n ∧ isN w2 n2
      · rw [if_pos h, if_neg (by omega), if_neg (by omega), if_neg (fun hh => g ⟨h.1, h.2, hh⟩)]
      · rw [if_neg h]
    rw [e0] at c0
    refine CallS.snap (normal_runs w n hn) rfl rfl ?_
    refine br_intro (fun _ => CallS.snap c0 rfl rfl (And.intro rfl rfl)) (fun h1 => ?_)
    have h1 : isN w n := by simpa using h1
    refine CallS.snap (normal_runs w2 n2 hn2) rfl rfl ?_
    refine br_intro (fun _ => CallS.snap c0 rfl rfl (And.intro rfl rfl)) (fun h2 => ?_)
    have h2 : isN w2 n2 := by simpa using h2
    refine br_intro (fun _ => CallS.snap c0 rfl rfl (And.intro rfl rfl)) (fun e => ?_)
    have e : w = w2 := by simpa using e
    exact absurd ⟨h1, h2, e⟩ g

end Go.Proofs.Ytkjhkcpgkccocaa
