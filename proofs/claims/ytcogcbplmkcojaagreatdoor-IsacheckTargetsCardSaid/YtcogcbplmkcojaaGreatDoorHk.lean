/-
  Numbers as bits: what the walks of patterns want.
-/
import Derived.Test.YtcogcbplmkcojaaGreatDoorHj
namespace Go.Proofs.YtcogcbplmkcojaaGreatDoor
open Go.IntWalk
set_option maxRecDepth 100000
set_option linter.unusedVariables false
set_option linter.unusedSimpArgs false
set_option maxHeartbeats 1000000
theorem zC {n : Nat} (h : n < 18446744073709551616) : IntKind.u64.wrap (n : Int) = n := by rw [IntKind.wrap_u64]; omega
theorem qG (w n : Nat) : BitVec.ofInt w (n : Int) = BitVec.ofNat w n := by
 apply BitVec.eq_of_toNat_eq
 rw [BitVec.toNat_ofInt, BitVec.toNat_ofNat]
 omega
theorem vC {a b : Nat} (ha : a < 18446744073709551616) (hb : b < 18446744073709551616) : kv .and .u64 (a : Int) (b : Int) = ((a &&& b : Nat) : Int) := by
 have Pe : a &&& b ≤ a := Nat.and_le_left
 show IntKind.u64.wrap ((BitVec.ofInt 64 (a : Int) &&& BitVec.ofInt 64 (b : Int)).toNat : Int) = _
 rw [qG, qG, BitVec.toNat_and, BitVec.toNat_ofNat, BitVec.toNat_ofNat, Nat.mod_eq_of_lt (by omega), Nat.mod_eq_of_lt (by omega)]
 exact zC (by omega)
theorem vB {a b : Nat} (ha : a < 18446744073709551616) (hb : b < 18446744073709551616) : kv .or .u64 (a : Int) (b : Int) = ((a ||| b : Nat) : Int) := by
 have Pe : a ||| b < 2 ^ 64 := Nat.or_lt_two_pow (by omega) (by omega)
 show IntKind.u64.wrap ((BitVec.ofInt 64 (a : Int) ||| BitVec.ofInt 64 (b : Int)).toNat : Int) = _
 rw [qG, qG, BitVec.toNat_or, BitVec.toNat_ofNat, BitVec.toNat_ofNat, Nat.mod_eq_of_lt (by omega), Nat.mod_eq_of_lt (by omega)]
 exact zC (by omega)
theorem EJ {a b : Nat} (ha : a < 18446744073709551616) (hb : b < 18446744073709551616) : kv .xor .u64 (a : Int) (b : Int) = ((a ^^^ b : Nat) : Int) := by
 have Pe : a ^^^ b < 2 ^ 64 := Nat.xor_lt_two_pow (by omega) (by omega)
 show IntKind.u64.wrap ((BitVec.ofInt 64 (a : Int) ^^^ BitVec.ofInt 64 (b : Int)).toNat : Int) = _
 rw [qG, qG, BitVec.toNat_xor, BitVec.toNat_ofNat, BitVec.toNat_ofNat, Nat.mod_eq_of_lt (by omega), Nat.mod_eq_of_lt (by omega)]
 exact zC (by omega)
theorem rA {k : Nat} (h : k < 64) : 2 ^ k < 18446744073709551616 := Nat.lt_of_lt_of_le (Nat.pow_lt_pow_right (by decide) h) (by decide)
theorem qy {k : Int} {n : Nat} (h : k = (n : Int)) (hn : n < 64) : IntKind.u64.wrap (1 * 2 ^ (min k.toNat IntKind.u64.bits)) = ((2 ^ n : Nat) : Int) := by
 have := rA hn
 rw [h, Int.toNat_natCast, Nat.min_eq_left (show n ≤ IntKind.u64.bits by show _ ≤ 64; omega), Int.one_mul, ← fu, zC (by omega)]
theorem vQ {m n : Nat} (hm : m < 18446744073709551616) (hn : n < 64) : m ||| 2 ^ n < 18446744073709551616 := Nat.or_lt_two_pow (n := 64) (by omega) (rA hn)
theorem rk (m n j : Nat) : (m ||| 2 ^ n).testBit j = (m.testBit j || decide (n = j)) := by
 rw [Nat.testBit_or, Nat.testBit_two_pow]
theorem LW {m n : Nat} (h : m.testBit n = false) : m + 2 ^ n = m ||| 2 ^ n := by
 have h1 : m = 2 ^ (n + 1) * (m / 2 ^ (n + 1)) + m % 2 ^ (n + 1) := (Nat.div_add_mod _ _).symm
 have h2 : m % 2 ^ (n + 1) < 2 ^ n := by
  refine Nat.lt_pow_two_of_testBit _ fun j hj => ?_
  rw [Nat.testBit_mod_two_pow]
  by_cases e : j < n + 1
  ·obtain rfl : j = n := by omega
   simp [h]
  ·simp [e]
 have hp : 2 ^ (n + 1) = 2 ^ n + 2 ^ n := by rw [Nat.pow_succ]; omega
 apply Nat.eq_of_testBit_eq
 intro j
 rw [rk]
 have e1 : m + 2 ^ n = 2 ^ (n + 1) * (m / 2 ^ (n + 1)) + (2 ^ n + m % 2 ^ (n + 1)) := by omega
 have e2 : (m + 2 ^ n).testBit j = if j < n + 1 then (2 ^ n + m % 2 ^ (n + 1)).testBit j else (m / 2 ^ (n + 1)).testBit (j - (n + 1)) := by
  rw [e1, Nat.testBit_two_pow_mul_add _ (by omega)]
 have e3 : m.testBit j = if j < n + 1 then (m % 2 ^ (n + 1)).testBit j else (m / 2 ^ (n + 1)).testBit (j - (n + 1)) := by
  conv => lhs; rw [h1]
  rw [Nat.testBit_two_pow_mul_add _ (by omega)]
 rw [e2, e3]
 by_cases hj : j < n + 1
 ·rw [if_pos hj, if_pos hj]
  by_cases M8 : n = j
  ·subst M8
   rw [Nat.testBit_two_pow_add_eq, Nat.testBit_lt_two_pow h2]; simp
  ·rw [Nat.testBit_two_pow_add_gt (by omega)]; simp [M8]
 ·rw [if_neg hj, if_neg hj]
  have : ¬ n = j := by omega
  simp [this]
def jd (m0 m1 : Nat) (P : Nat → Bool) : Prop := m0 < 18446744073709551616 ∧ m1 < 18446744073709551616 ∧ ∀ j, j < 64 → m0.testBit j = P j ∧ m1.testBit j = P (64 + j)
theorem jd.zero : jd 0 0 (fun _ => false) := ⟨by decide, by decide, fun j _ => by simp⟩
theorem jd.congr {m0 m1 : Nat} {P Q : Nat → Bool} (h : jd m0 m1 P) (e : ∀ p, p < 128 → P p = Q p) : jd m0 m1 Q :=
 ⟨h.1, h.2.1, fun j hj => by rw [(h.2.2 j hj).1, (h.2.2 j hj).2]; exact ⟨e j (by omega), e (64 + j) (by omega)⟩⟩
theorem jd.Ih {m0 m1 i : Nat} {P : Nat → Bool} (h : jd m0 m1 P) (hi : i < 64) : jd (m0 ||| 2 ^ i) m1 (fun p => P p || decide (i = p)) :=
 ⟨vQ h.1 hi, h.2.1, fun j hj => by
  rw [rk, (h.2.2 j hj).1, (h.2.2 j hj).2]
  refine ⟨rfl, ?_⟩
  have : ¬ i = 64 + j := by omega
  simp [this]⟩
theorem jd.Ig {m0 m1 i : Nat} {P : Nat → Bool} (h : jd m0 m1 P) (hi : i < 64) : jd m0 (m1 ||| 2 ^ i) (fun p => P p || decide (64 + i = p)) :=
 ⟨h.1, vQ h.2.1 hi, fun j hj => by
  rw [rk, (h.2.2 j hj).1, (h.2.2 j hj).2]
  refine ⟨?_, ?_⟩
  ·have : ¬ 64 + i = j := by omega
   simp [this]
  ·by_cases e : i = j
   ·simp [e]
   ·have : ¬ 64 + i = 64 + j := by omega
    simp [e, this]⟩
def kD (B : List Θ) (n p : Nat) : Bool := match B[p]? with | some y => decide (p < n) && decide (y.arg < 0 ∧ y.lit ≠ 120) | none => false
def kC (B : List Θ) (n p : Nat) : Bool := match B[p]? with | some y => decide (p < n) && (decide (y.arg < 0 ∧ y.lit ≠ 120) && decide (y.lit = 49)) | none => false
theorem Dq (B : List Θ) (p : Nat) : kD B 0 p = false := by unfold kD; cases B[p]? <;> simp
theorem Dn (B : List Θ) (p : Nat) : kC B 0 p = false := by unfold kC; cases B[p]? <;> simp
theorem lE {B : List Θ} {n : Nat} {x : Θ} (hx : B[n]? = some x) (p : Nat) : kD B (n + 1) p = (kD B n p || (decide (x.arg < 0 ∧ x.lit ≠ 120) && decide (n = p))) := by
 unfold kD
 by_cases e : n = p
 ·subst e; rw [hx]; simp
 ·cases B[p]? with
  | none => simp [e]
  | some y =>
   have : (p < n + 1) ↔ p < n := by omega
   simp [e, this]
theorem lB {B : List Θ} {n : Nat} {x : Θ} (hx : B[n]? = some x) (p : Nat) : kC B (n + 1) p = (kC B n p || ((decide (x.arg < 0 ∧ x.lit ≠ 120) && decide (x.lit = 49)) && decide (n = p))) := by
 unfold kC
 by_cases e : n = p
 ·subst e; rw [hx]; simp
 ·cases B[p]? with
  | none => simp [e]
  | some y =>
   have : (p < n + 1) ↔ p < n := by omega
   simp [e, this]
structure ee (B : List Θ) (n m0 m1 w0 w1 : Nat) : Prop where
 jv : jd m0 m1 (kD B n)
 want : jd w0 w1 (kC B n)
theorem ee.zero (B : List Θ) : ee B 0 0 0 0 0 := ⟨jd.zero.congr fun p _ => (Dq B p).symm, jd.zero.congr fun p _ => (Dn B p).symm⟩
theorem ee.skip {B : List Θ} {n m0 m1 w0 w1 : Nat} {x : Θ} (h : ee B n m0 m1 w0 w1) (hx : B[n]? = some x) (hl : ¬ (x.arg < 0 ∧ x.lit ≠ 120)) : ee B (n + 1) m0 m1 w0 w1 :=
 ⟨h.jv.congr fun p _ => by rw [lE hx, decide_eq_false hl]; simp, h.want.congr fun p _ => by rw [lB hx, decide_eq_false hl]; simp⟩
theorem ee.low {B : List Θ} {n m0 m1 w0 w1 : Nat} {x : Θ} (h : ee B n m0 m1 w0 w1) (hx : B[n]? = some x) (hl : x.arg < 0 ∧ x.lit ≠ 120) (hn : n < 64) :
 (x.lit = 49 → ee B (n + 1) (m0 ||| 2 ^ n) m1 (w0 ||| 2 ^ n) w1) ∧ (¬ x.lit = 49 → ee B (n + 1) (m0 ||| 2 ^ n) m1 w0 w1) :=
 ⟨fun h1 => ⟨(h.jv.Ih hn).congr fun p _ => by rw [lE hx, decide_eq_true hl]; simp, (h.want.Ih hn).congr fun p _ => by rw [lB hx, decide_eq_true hl, decide_eq_true h1]; simp⟩,
  fun h1 => ⟨(h.jv.Ih hn).congr fun p _ => by rw [lE hx, decide_eq_true hl]; simp, h.want.congr fun p _ => by rw [lB hx, decide_eq_true hl, decide_eq_false h1]; simp⟩⟩
theorem ee.Na {B : List Θ} {n k m0 m1 w0 w1 : Nat} {x : Θ} (h : ee B n m0 m1 w0 w1) (hx : B[n]? = some x) (hl : x.arg < 0 ∧ x.lit ≠ 120) (hk : n = 64 + k) (hn : k < 64) :
 (x.lit = 49 → ee B (n + 1) m0 (m1 ||| 2 ^ k) w0 (w1 ||| 2 ^ k)) ∧ (¬ x.lit = 49 → ee B (n + 1) m0 (m1 ||| 2 ^ k) w0 w1) := by
 subst hk
 exact ⟨fun h1 => ⟨(h.jv.Ig hn).congr fun p _ => by rw [lE hx, decide_eq_true hl]; simp, (h.want.Ig hn).congr fun p _ => by rw [lB hx, decide_eq_true hl, decide_eq_true h1]; simp⟩,
  fun h1 => ⟨(h.jv.Ig hn).congr fun p _ => by rw [lE hx, decide_eq_true hl]; simp, h.want.congr fun p _ => by rw [lB hx, decide_eq_true hl, decide_eq_false h1]; simp⟩⟩
theorem NV {n : Nat} (h : n ≠ 0) : ∃ j, n.testBit j = true := Nat.exists_testBit_of_ne_zero h
theorem yM {a b u v : Nat} (h : a &&& b &&& (u ^^^ v) ≠ 0) (ha : a < 18446744073709551616) : ∃ j, j < 64 ∧ a.testBit j = true ∧ b.testBit j = true ∧ u.testBit j ≠ v.testBit j := by
 obtain ⟨j, hj⟩ := NV h
 rw [Nat.testBit_and, Nat.testBit_and, Nat.testBit_xor] at hj
 have h1 : a.testBit j = true := by simp at hj; exact hj.1.1
 have h2 : b.testBit j = true := by simp at hj; exact hj.1.2
 have h3 : u.testBit j ≠ v.testBit j := by simp at hj; exact hj.2
 refine ⟨j, ?_, h1, h2, h3⟩
 rcases Nat.lt_or_ge j 64 with h | h
 ·exact h
 ·have := Nat.testBit_lt_two_pow (Nat.lt_of_lt_of_le ha (show 18446744073709551616 ≤ 2 ^ j from Nat.le_trans (by decide) (Nat.pow_le_pow_right (by decide) h)))
  rw [this] at h1; cases h1
theorem vX {B : List Θ} {n p : Nat} (h : kD B n p = true) : ∃ x, B[p]? = some x ∧ gb x := by
 unfold kD at h
 cases e : B[p]? with
 | none => rw [e] at h; cases h
 | some y => rw [e] at h; simp at h; exact ⟨y, rfl, h.2⟩
theorem pP {B : List Θ} {p : Nat} {x : Θ} (h : B[p]? = some x) (hl : gb x) : kC B B.length p = decide (x.lit = 49) := by
 unfold kC
 rw [h]
 have := (List.getElem?_eq_some_iff.1 h).1
 have h2 := hl.1; have h3 := hl.2
 simp [this, h2, h3]
theorem CE {A B : List Θ} {p : Nat} (ha : kD A A.length p = true) (hb : kD B B.length p = true) (aw : kC A A.length p ≠ kC B B.length p) : ur A B := by
 obtain ⟨x, hx, lx⟩ := vX ha
 obtain ⟨y, hy, ly⟩ := vX hb
 rw [pP hx lx, pP hy ly] at aw
 refine ⟨p, x, y, hx, hy, lx, ly, ?_⟩
 by_cases e1 : x.lit = 49 <;> by_cases e2 : y.lit = 49 <;> simp [e1, e2] at aw ⊢
theorem Jw {A B : List Θ} {a0 a1 u0 u1 b0 b1 v0 v1 : Nat} (ha : ee A A.length a0 a1 u0 u1) (hb : ee B B.length b0 b1 v0 v1) (h : a0 &&& b0 &&& (u0 ^^^ v0) ≠ 0) : ur A B := by
 obtain ⟨j, hj, h1, h2, h3⟩ := yM h ha.jv.1
 rw [(ha.jv.2.2 j hj).1] at h1
 rw [(hb.jv.2.2 j hj).1] at h2
 rw [(ha.want.2.2 j hj).1, (hb.want.2.2 j hj).1] at h3
 exact CE h1 h2 h3
theorem GS {A B : List Θ} {a0 a1 u0 u1 b0 b1 v0 v1 : Nat} (ha : ee A A.length a0 a1 u0 u1) (hb : ee B B.length b0 b1 v0 v1) (h : a1 &&& b1 &&& (u1 ^^^ v1) ≠ 0) : ur A B := by
 obtain ⟨j, hj, h1, h2, h3⟩ := yM h ha.jv.2.1
 rw [(ha.jv.2.2 j hj).2] at h1
 rw [(hb.jv.2.2 j hj).2] at h2
 rw [(ha.want.2.2 j hj).2, (hb.want.2.2 j hj).2] at h3
 exact CE h1 h2 h3
theorem yl {B : List Θ} {p : Nat} {x : Θ} (hx : B[p]? = some x) (hl : gb x) : kD B B.length p = true := by
 unfold kD
 rw [hx]
 have := (List.getElem?_eq_some_iff.1 hx).1
 have h2 := hl.1; have h3 := hl.2
 simp [this, h2, h3]
theorem GR {A B : List Θ} {a0 a1 u0 u1 b0 b1 v0 v1 : Nat} (ha : ee A A.length a0 a1 u0 u1) (hb : ee B B.length b0 b1 v0 v1) (hl : A.length ≤ 128)
 (h0 : a0 &&& b0 &&& (u0 ^^^ v0) = 0) (h1 : a1 &&& b1 &&& (u1 ^^^ v1) = 0) : ¬ ur A B := by
 rintro ⟨p, x, y, hx, hy, lx, ly, he⟩
 have hp := (List.getElem?_eq_some_iff.1 hx).1
 have e1 := yl hx lx
 have e2 := yl hy ly
 have e3 := pP hx lx
 have e4 := pP hy ly
 have ne : kC A A.length p ≠ kC B B.length p := by
  rw [e3, e4]
  intro e
  by_cases q1 : x.lit = 49 <;> by_cases q2 : y.lit = 49 <;> simp [q1, q2] at e he
 by_cases lM : p < 64
 ·have t := congrArg (fun n => n.testBit p) h0
  simp only [Nat.testBit_and, Nat.testBit_xor, Nat.zero_testBit, (ha.jv.2.2 p lM).1, (hb.jv.2.2 p lM).1, (ha.want.2.2 p lM).1, (hb.want.2.2 p lM).1, e1, e2] at t
  simp at t
  exact ne t
 ·obtain ⟨j, hj⟩ : ∃ j, p = 64 + j := ⟨p - 64, by omega⟩
  have DI : j < 64 := by omega
  subst hj
  have t := congrArg (fun n => n.testBit j) h1
  simp only [Nat.testBit_and, Nat.testBit_xor, Nat.zero_testBit, (ha.jv.2.2 j DI).2, (hb.jv.2.2 j DI).2, (ha.want.2.2 j DI).2, (hb.want.2.2 j DI).2, e1, e2] at t
  simp at t
  exact ne t
def e_ (A : List Θ) (i : Int) (one : Nat → Bool) (t n : Nat) : Prop := ∀ m : Nat, n.testBit m = true ↔ ∃ (p : Nat) (x : Θ), p < t ∧ A[p]? = some x ∧ x.arg = i ∧ x.num = (m : Int) ∧ one p = true
theorem e_.zero (A : List Θ) (i : Int) (one : Nat → Bool) : e_ A i one 0 0 := fun m => ⟨fun h => by simp at h, fun ⟨p, x, h, _⟩ => absurd h (Nat.not_lt_zero _)⟩
theorem e_.skip {A : List Θ} {i : Int} {one : Nat → Bool} {t n : Nat} {x : Θ} (h : e_ A i one t n) (hx : A[t]? = some x) (hs : x.arg = i → one t = false) : e_ A i one (t + 1) n := fun m => by
 rw [h m]
 constructor
 ·rintro ⟨p, y, h1, h2⟩; exact ⟨p, y, by omega, h2⟩
 ·rintro ⟨p, y, h1, h2, h3, h4, h5⟩
  by_cases e : p = t
  ·subst e
   obtain rfl : x = y := by rw [hx] at h2; exact Option.some.inj h2
   rw [hs h3] at h5; cases h5
  ·exact ⟨p, y, by omega, h2, h3, h4, h5⟩
theorem e_.set {A : List Θ} {i : Int} {one : Nat → Bool} {t n k : Nat} {x : Θ} (h : e_ A i one t n) (hx : A[t]? = some x) (ha : x.arg = i) (hk : x.num = (k : Int)) (ho : one t = true) : e_ A i one (t + 1) (n ||| 2 ^ k) := fun m => by
 rw [rk]
 by_cases e : k = m
 ·subst e
  simp only [decide_true, Bool.or_true, true_iff]
  exact ⟨t, x, by omega, hx, ha, hk, ho⟩
 ·simp only [decide_eq_false e, Bool.or_false, h m]
  constructor
  ·rintro ⟨p, y, h1, h2⟩; exact ⟨p, y, by omega, h2⟩
  ·rintro ⟨p, y, h1, h2, h3, h4, h5⟩
   by_cases e2 : p = t
   ·subst e2
    obtain rfl : x = y := by rw [hx] at h2; exact Option.some.inj h2
    omega
   ·exact ⟨p, y, by omega, h2, h3, h4, h5⟩
theorem e_.all {A : List Θ} {i : Int} {one : Nat → Bool} {n : Nat} (h : e_ A i one A.length n) : jc A i one n := fun m => by
 rw [h m]
 constructor
 ·rintro ⟨p, y, h1, h2⟩; exact ⟨p, y, h2⟩
 ·rintro ⟨p, y, h2⟩; exact ⟨p, y, (List.getElem?_eq_some_iff.1 h2.1).1, h2⟩
theorem e_.lt {A : List Θ} {i : Int} {one : Nat → Bool} {t n k : Nat} (h : e_ A i one t n) (hb : ∀ (p : Nat) (x : Θ), A[p]? = some x → x.arg = i → x.num < (k : Int)) : n < 2 ^ k := by
 refine Nat.lt_pow_two_of_testBit n fun j hj => ?_
 cases e : n.testBit j
 ·rfl
 ·obtain ⟨p, x, _, a, b, c, _⟩ := (h j).1 e
  have := hb p x a b
  omega
end Go.Proofs.YtcogcbplmkcojaaGreatDoor
