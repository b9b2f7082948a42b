/-
  The document's functions for patterns: classes, places, values (walks).
-/
import Derived.Test.YtcogcbplmkcojaaGreatDoorHo
namespace Go.Proofs.YtcogcbplmkcojaaGreatDoor
open Go.IntWalk
set_option maxRecDepth 100000
set_option linter.unusedVariables false
set_option linter.unusedSimpArgs false
set_option maxHeartbeats 1000000
theorem lr {n : Int} (h : 0 ≤ n) (h2 : n < 18446744073709551616) : IntKind.u64.wrap n = n := by rw [IntKind.wrap_u64]; omega
theorem MD {k : Int} {n : Nat} (h : k = (n : Int)) (hn : n < 63) : IntKind.i64.wrap (1 * 2 ^ (min k.toNat IntKind.i64.bits)) = ((2 ^ n : Nat) : Int) := by
 have : 2 ^ n < 2 ^ 63 := Nat.pow_lt_pow_right (by decide) hn
 rw [h, Int.toNat_natCast, Nat.min_eq_left (show n ≤ IntKind.i64.bits by show _ ≤ 64; omega), Int.one_mul, ← fu]
 obtain ⟨P, hP⟩ : ∃ P, P = 2 ^ n := ⟨_, rfl⟩
 rw [← hP] at this ⊢
 rw [IntKind.wrap_i64]; omega
theorem tH {b : Bool} (h : b = true) : some (T.bool b) = some (T.bool true) := by rw [h]
theorem Bf (d : τ) (k : dN) (hk : iF d k) : φ Tryz.prog 140 [aq d, aV k] (.t (.bool true)) := by
 refine φ.Λ ?_ rfl
 refine γ.ο ζ η Tryz.func140 rfl rfl ?_
 have hb : 1 ≤ k.bits ∧ k.bits ≤ 64 ∧ 0 ≤ k.shift ∧ k.shift ≤ 64 ∧ 0 ≤ k.plus ∧ k.plus ≤ 64 := by rcases hk with h | h | h <;> omega
 refine U (fun c => absurd (of_decide_eq_true c) (by omega)) (fun _ => ?_)
 refine U (fun c => absurd (of_decide_eq_true c) (by omega)) (fun _ => ?_)
 refine U (fun c => absurd (of_decide_eq_true c) (by omega)) (fun _ => ?_)
 refine U (fun c => absurd (of_decide_eq_true c) (by omega)) (fun _ => ?_)
 refine U (fun c => absurd (of_decide_eq_true c) (by omega)) (fun _ => ?_)
 refine U (fun c => absurd (of_decide_eq_true c) (by omega)) (fun _ => ?_)
 refine U (fun c1 => ?_) (fun c1 => ?_)
 ·have c1 : k.kind = 1 := by simpa using c1
  obtain ⟨h6, ke, hp, jy, fl, yA, OG, OD⟩ : k.bits ≤ 6 ∧ k.shift = 0 ∧ 0 ≤ k.plus ∧ k.plus < 64 ∧ ∃ fl, cV d.files k.file = some fl ∧ fl.mH ∧ k.plus + 2 ^ k.bits.toNat - 1 < fl.count := by
   rcases hk with ⟨_, h, h2, h3, h4, h5⟩ | h | h
   ·exact ⟨h.2, h2, h3, h4, h5⟩
   ·omega
   ·omega
  have Kg := oy yA
  obtain ⟨Su, e1, _, Pl⟩ := cN Kg
  obtain rfl : fl = Su := by rw [yA] at e1; exact Option.some.inj e1
  refine U (fun c => absurd (of_decide_eq_true c) (by omega)) (fun _ => ?_)
  refine U (fun c => absurd (show k.shift ≠ 0 by simpa using c) (by omega)) (fun _ => ?_)
  refine γ.pure (rB _ _) rfl ?_
  refine U (fun c => ?_) (fun _ => ?_)
  ·exact absurd (show ¬ (0 ≤ k.file ∧ k.file < ((d.files.map dz).length : Int)) from of_decide_eq_false (pU c)) (by rw [List.length_map]; exact fun h => h Kg)
  refine ε (gn rfl Kg.1) ?_
  refine ξ (bW Pl) ?_
  refine γ.pure (BN fl) rfl ?_
  refine U (fun c => absurd OG (of_decide_eq_false (by simpa using c))) (fun _ => ?_)
  obtain ⟨B, hB⟩ : ∃ B : Nat, k.bits = (B : Int) := ⟨k.bits.toNat, by omega⟩
  obtain ⟨N, hN⟩ : ∃ N, N = 2 ^ B := ⟨_, rfl⟩
  have S0 : N ≤ 2 ^ 6 := by rw [hN]; exact jJ (by omega)
  have Tx : 1 ≤ N := by rw [hN]; exact Nat.two_pow_pos _
  rw [hB, Int.toNat_natCast, ← fu, ← hN] at OD
  refine ak (fun i : Nat => i ≤ N - 1) (fun i => ⟨[(2, .ptr 0 0 0 0), (3, .ptr 1 0 0 0), (5, .t (.int .i64 (k.plus + i))), (6, .t (.int .i64 i))], [.box (b_ d), .box (JB k)]⟩)
   (fun i => N - 1 - i) 0 (Nat.zero_le _) ?_ (fun i hi => ?_)
  ·exact a8 ⟨rfl, rfl, (by show AV.t (T.int .i64 k.plus) = AV.t (T.int .i64 (k.plus + ((0 : Nat) : Int))); simp), rfl, trivial⟩ rfl
  have hi : i ≤ N - 1 := hi
  refine δ (n := k.bits) (lr (by omega) (by omega)) ?_
  refine ε (decide_eq_true (show (0 : Int) ≤ k.bits by omega)) ?_
  refine δ (n := (N : Int)) (by rw [MD hB (by omega), hN]) ?_
  refine δ (n := ((N - 1 : Nat) : Int)) (by rw [IntKind.wrap_i64]; omega) ?_
  refine U (fun c => ?_) (fun c => ?_)
  ·have c : i < N - 1 := dn c
   refine δ (n := k.plus + ((i + 1 : Nat) : Int)) (by rw [IntKind.wrap_i64]; omega) ?_
   refine δ (n := ((i + 1 : Nat) : Int)) (ag (n := i + 1) (by omega)) ?_
   conv => whnf
   exact ⟨⟨i + 1, by omega⟩, π [0, 1] rfl ⟨rfl, rfl, rfl, rfl, trivial⟩ ⟨rfl, rfl, trivial⟩, by show N - 1 - (i + 1) < N - 1 - i; omega⟩
  ·have c : i = N - 1 := by have := dE c; omega
   refine ε (gn rfl Kg.1) ?_
   refine ξ (bW Pl) ?_
   exact And.intro (tH (decide_eq_true (by omega))) rfl
 have c1 : ¬ k.kind = 1 := by simpa using c1
 refine U (fun c2 => ?_) (fun c2 => ?_)
 ·have c2 : k.kind = 2 := by simpa using c2
  have h : k.bits + k.shift ≤ 62 ∧ k.plus = 0 := by rcases hk with h | h | h <;> omega
  refine δ (n := k.bits + k.shift) (by rw [IntKind.wrap_i64]; omega) ?_
  refine U (fun _ => ?_) (fun c => absurd (of_decide_eq_false c) (by omega))
  exact And.intro (tH (by simp [h.2])) rfl
 have c2 : ¬ k.kind = 2 := by simpa using c2
 have h : (k.kind = 3 ∨ k.kind = 4 ∨ k.kind = 5) ∧ k.bits + k.shift ≤ 64 ∧ k.plus = 0 := by
  rcases hk with h | h | h
  ·omega
  ·omega
  ·exact ⟨h.1, by omega, by omega⟩
 refine U (fun c3 => ?_) (fun c3 => ?_)
 ·refine U (fun _ => ?_) (fun c => absurd (c.symm.trans c3) (by decide))
  refine δ (n := k.bits + k.shift) (by rw [IntKind.wrap_i64]; omega) ?_
  refine U (fun _ => ?_) (fun c => absurd (of_decide_eq_false c) (by omega))
  exact And.intro (tH (by simp [h.2.2])) rfl
 have c3 : ¬ k.kind = 3 := by simpa using c3
 refine U (fun c4 => ?_) (fun c4 => ?_)
 ·refine U (fun _ => ?_) (fun c => absurd (c.symm.trans c4) (by decide))
  refine δ (n := k.bits + k.shift) (by rw [IntKind.wrap_i64]; omega) ?_
  refine U (fun _ => ?_) (fun c => absurd (of_decide_eq_false c) (by omega))
  exact And.intro (tH (by simp [h.2.2])) rfl
 have c4 : ¬ k.kind = 4 := by simpa using c4
 refine U (fun c5 => ?_) (fun c5 => ?_)
 ·refine δ (n := k.bits + k.shift) (by rw [IntKind.wrap_i64]; omega) ?_
  refine U (fun _ => ?_) (fun c => absurd (of_decide_eq_false c) (by omega))
  exact And.intro (tH (by simp [h.2.2])) rfl
 have c5 : ¬ k.kind = 5 := by simpa using c5
 omega
theorem G8 (o : Int) (s n : Nat) (hs : s < n) (hn : n ≤ 1000000) : φ Tryz.prog 88 [.int .i64 o, .int .i64 s, .int .i64 n] (.ao [.t (.int .i64 ((if o = 1 then (n - 1 - s) / 8 else s / 8 : Nat) : Int)), .t (.int .i64 ((if o = 1 then (n - 1 - s) % 8 else 7 - s % 8 : Nat) : Int))]) := by
 refine φ.Λ ?_ rfl
 refine γ.ο ζ η Tryz.func88 rfl rfl ?_
 refine U (fun c => ?_) (fun c => ?_)
 ·have c : o = 1 := by simpa using c
  rw [if_pos c, if_pos c]
  obtain ⟨w, hw⟩ : ∃ w, w = n - 1 - s := ⟨_, rfl⟩
  rw [← hw]
  refine δ (n := ((n - 1 : Nat) : Int)) (by rw [IntKind.wrap_i64]; omega) ?_
  refine δ (n := ((w : Nat) : Int)) (B_ (a := w) (b := s) (c := n - 1) (by omega) (by omega)) ?_
  refine ε rfl ?_
  refine δ (n := ((w / 8 : Nat) : Int)) (show IntKind.i64.wrap (((w : Nat) : Int).tdiv 8) = _ from by rw [Int.tdiv_eq_ediv_of_nonneg (by omega), IntKind.wrap_i64]; omega) ?_
  refine ε rfl ?_
  refine δ (n := ((w % 8 : Nat) : Int)) (show ((w : Nat) : Int).tmod 8 = _ from by rw [Int.tmod_eq_emod_of_nonneg (by omega)]; omega) ?_
  exact And.intro ⟨rfl, rfl, trivial⟩ rfl
 ·have c : ¬ o = 1 := by simpa using c
  rw [if_neg c, if_neg c]
  refine ε rfl ?_
  refine δ (n := ((s / 8 : Nat) : Int)) (show IntKind.i64.wrap (((s : Nat) : Int).tdiv 8) = _ from by rw [Int.tdiv_eq_ediv_of_nonneg (by omega), IntKind.wrap_i64]; omega) ?_
  refine ε rfl ?_
  refine δ (n := ((s % 8 : Nat) : Int)) (show ((s : Nat) : Int).tmod 8 = _ from by rw [Int.tmod_eq_emod_of_nonneg (by omega)]; omega) ?_
  refine δ (n := ((7 - s % 8 : Nat) : Int)) (by rw [IntKind.wrap_i64]; omega) ?_
  exact And.intro ⟨rfl, rfl, trivial⟩ rfl
theorem zB (d : τ) (k : dN) (hk : iF d k) (n : Nat) (hn : n < 2 ^ k.bits.toNat) : φ Tryz.prog 30 [aV k, .int .u64 n] (.t (.int .i64 (eo k n))) := by
 have kc : 0 ≤ k.shift := by rcases hk with h | h | h <;> omega
 have OB : k.shift ≤ 64 := by rcases hk with h | h | h <;> omega
 have hb : 1 ≤ k.bits ∧ k.bits ≤ 64 := by rcases hk with h | h | h <;> omega
 have Cn : k.bits.toNat ≤ 64 := by omega
 have Ja : n < 2 ^ 64 := Nat.lt_of_lt_of_le hn (jJ (by omega))
 refine φ.Λ ?_ rfl
 refine γ.ο ζ η Tryz.func30 rfl rfl ?_
 refine U (fun c => ?_) (fun c => ?_)
 ·have c : k.kind = 1 := by simpa using c
  have hp : 0 ≤ k.plus ∧ k.plus < 64 ∧ k.bits ≤ 6 := by rcases hk with h | h | h <;> omega
  have : 2 ^ k.bits.toNat ≤ 2 ^ 6 := jJ (by omega)
  refine δ (n := (n : Int)) (by rw [IntKind.wrap_i64]; omega) ?_
  refine δ (n := (n : Int) + k.plus) (by rw [IntKind.wrap_i64]; omega) ?_
  exact And.intro (congrArg (fun x => some (T.int .i64 x)) (by rw [eo, if_pos c])) rfl
 have c1 : ¬ k.kind = 1 := by simpa using c
 obtain ⟨v0, qK⟩ : ∃ v0, IntKind.i64.wrap (n : Int) = v0 := ⟨_, rfl⟩
 refine δ qK ?_
 obtain ⟨S, hS⟩ : ∃ S, S = 2 ^ k.shift.toNat := ⟨_, rfl⟩
 have RL : 0 < S := by rw [hS]; exact Nat.two_pow_pos _
 have Ko : ((S : Nat) : Int) = 2 ^ k.shift.toNat := by rw [hS, fu]
 refine U (fun c => ?_) (fun c => ?_)
 rotate_left 1
 ·have c : k.kind = 2 := by simpa using c
  have hp : k.bits + k.shift ≤ 62 := by rcases hk with h | h | h <;> omega
  have h1 : 2 ^ k.bits.toNat ≤ 2 ^ 62 := jJ (by omega)
  have h2 : n * S < 2 ^ 62 := by
   have : n * 2 ^ k.shift.toNat < 2 ^ k.bits.toNat * 2 ^ k.shift.toNat := Nat.mul_lt_mul_of_pos_right hn (Nat.two_pow_pos _)
   rw [← Nat.pow_add, ← hS] at this
   exact Nat.lt_of_lt_of_le this (jJ (by omega))
  have hv : v0 = (n : Int) := by rw [← qK, IntKind.wrap_i64]; omega
  refine δ (n := k.shift) (lr (by omega) (by omega)) ?_
  refine ε (decide_eq_true kc) ?_
  refine δ (n := ((n * S : Nat) : Int)) (show IntKind.i64.wrap (v0 * 2 ^ (min (Int.toNat k.shift) IntKind.i64.bits)) = _ from by
   rw [hv, rK (by show k.shift.toNat ≤ 64; omega), ← Ko, ← Int.natCast_mul, IntKind.wrap_i64]; omega) ?_
  exact And.intro (congrArg (fun x => some (T.int .i64 x)) (by rw [eo, if_neg c1, if_pos c, Int.natCast_mul, Ko])) rfl
 have c2 : ¬ k.kind = 2 := by simpa using c
 have hp : k.bits + k.shift ≤ 64 := by rcases hk with h | h | h <;> omega
 obtain ⟨B, hB⟩ : ∃ B, B = 2 ^ k.bits.toNat := ⟨_, rfl⟩
 obtain ⟨H, wC⟩ : ∃ H, H = 2 ^ (k.bits.toNat - 1) := ⟨_, rfl⟩
 have hH : H * 2 = B := by rw [wC, hB, ← Nat.pow_succ]; congr 1; omega
 obtain ⟨v, hv⟩ : ∃ v : Int, v = if H ≤ n then (n : Int) - B else n := ⟨_, rfl⟩
 have Tj : n < B := by rw [hB]; exact hn
 have MJ : -(H : Int) ≤ v ∧ v < H := by rw [hv]; split <;> omega
 have RU : H * S ≤ 9223372036854775808 := by
  rw [wC, hS, ← Nat.pow_add]
  exact jJ (b := 63) (by omega)
 have Q3 : -9223372036854775808 ≤ v * (S : Int) ∧ v * (S : Int) ≤ 9223372036854775807 := by
  have e : ((H * S : Nat) : Int) = (H : Int) * S := Int.natCast_mul _ _
  have h1 : -(H : Int) * S ≤ v * S := Int.mul_le_mul_of_nonneg_right MJ.1 (by omega)
  have h2 : v * S ≤ ((H : Int) - 1) * S := Int.mul_le_mul_of_nonneg_right (by omega) (by omega)
  rw [Int.neg_mul] at h1
  rw [Int.sub_mul] at h2
  omega
 have tj : eo k n = v * (S : Int) := by rw [eo, if_neg c1, if_neg c2, hv, ← fu, ← hB, ← wC, Ko]
 have last : ∀ z : Int, z = v → IntKind.i64.wrap (z * 2 ^ (min (Int.toNat k.shift) IntKind.i64.bits)) = v * (S : Int) := fun z hz => by
  rw [hz, rK (by show k.shift.toNat ≤ 64; omega), ← Ko, IntKind.wrap_i64]; omega
 refine U (fun CH => ?_) (fun CH => ?_)
 ·have CH : k.bits < 64 := of_decide_eq_true CH
  have S1 : B ≤ 2 ^ 63 := by rw [hB]; exact jJ (by omega)
  have P4 : v0 = (n : Int) := by rw [← qK, IntKind.wrap_i64]; omega
  obtain ⟨m, hm⟩ : ∃ m, m = k.bits - 1 := ⟨_, rfl⟩
  refine δ (n := m) (by rw [IntKind.wrap_i64]; omega) ?_
  refine δ (n := m) (lr (by omega) (by omega)) ?_
  refine ε (decide_eq_true (show (0 : Int) ≤ m by omega)) ?_
  have hq : n / H < 2 := by rw [Nat.div_lt_iff_lt_mul (by omega)]; omega
  have Pb : n / H = if H ≤ n then 1 else 0 := by
   have yE : 0 < H := by rw [wC]; exact Nat.two_pow_pos _
   split
   ·next h => have := Nat.div_le_div_right (c := H) h; rw [Nat.div_self yE] at this; omega
   ·next h => exact Nat.div_eq_of_lt (by omega)
  obtain ⟨q, Q9⟩ : ∃ q, q = n / H := ⟨_, rfl⟩
  refine δ (n := (q : Int)) (show ((n : Nat) : Int).fdiv (2 ^ min (Int.toNat m) IntKind.u64.bits) = (q : Int) from by
   rw [rK (by show m.toNat ≤ 64; omega), show m.toNat = k.bits.toNat - 1 by omega, ← fu, ← wC, Int.fdiv_eq_ediv_of_nonneg _ (by omega), ← Int.natCast_ediv, Q9]) ?_
  refine ε rfl ?_
  refine δ (n := (q : Int)) (by rw [Int.tmod_eq_emod_of_nonneg (by omega)]; omega) ?_
  refine U (fun cq => ?_) (fun cq => ?_)
  ·have cq : q = 1 := by have : ((q : Int) == 1) = true := cq
                         simp at this; omega
   have wB : H ≤ n := by
    rcases Nat.lt_or_ge n H with h | h
    ·rw [if_neg (by omega)] at Pb; omega
    ·exact h
   obtain ⟨b, tn⟩ : ∃ b : Nat, k.bits = (b : Int) := ⟨k.bits.toNat, by omega⟩
   obtain ⟨g, hg⟩ : ∃ g, IntKind.i64.wrap (1 * 2 ^ (min k.bits.toNat IntKind.i64.bits)) = g := ⟨_, rfl⟩
   refine δ (n := k.bits) (lr (by omega) (by omega)) ?_
   refine ε (decide_eq_true (show (0 : Int) ≤ k.bits by omega)) ?_
   refine δ hg ?_
   have Tb : v = (n : Int) - B := by rw [hv, if_pos wB]
   have Rq : IntKind.i64.wrap (v0 - g) = v := by
    rw [← hg, tn, Int.toNat_natCast, Nat.min_eq_left (show b ≤ IntKind.i64.bits by show _ ≤ 64; omega), Int.one_mul, ← fu, show 2 ^ b = B by rw [hB, tn]; rfl, IntKind.wrap_i64, IntKind.wrap_i64]
    omega
   refine δ (n := v) Rq ?_
   refine δ (n := k.shift) (lr (by omega) (by omega)) ?_
   refine ε (decide_eq_true kc) ?_
   refine δ (n := v * (S : Int)) (last v rfl) ?_
   exact And.intro (congrArg (fun x => some (T.int .i64 x)) tj.symm) rfl
  ·have cq : ¬ q = 1 := by intro e; rw [e] at cq; cases cq
   have wB : ¬ H ≤ n := fun h => by rw [if_pos h] at Pb; omega
   refine δ (n := k.shift) (lr (by omega) (by omega)) ?_
   refine ε (decide_eq_true kc) ?_
   refine δ (n := v * (S : Int)) (last v0 (by rw [P4, hv, if_neg wB])) ?_
   exact And.intro (congrArg (fun x => some (T.int .i64 x)) tj.symm) rfl
 ·have CH : k.bits = 64 := by have : ¬ k.bits < 64 := of_decide_eq_false CH
                              omega
  have TC : B = 18446744073709551616 := by rw [hB, CH]; rfl
  refine δ (n := k.shift) (lr (by omega) (by omega)) ?_
  refine ε (decide_eq_true kc) ?_
  refine δ (n := v * (S : Int)) (last v0 (by rw [← qK, IntKind.wrap_i64, hv]; split <;> omega)) ?_
  exact And.intro (congrArg (fun x => some (T.int .i64 x)) tj.symm) rfl
end Go.Proofs.YtcogcbplmkcojaaGreatDoor
