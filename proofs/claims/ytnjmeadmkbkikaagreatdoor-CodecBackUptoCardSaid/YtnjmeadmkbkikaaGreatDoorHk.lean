/-
  Numbers as bits: what the walks of patterns want.
-/
import Derived.Test.YtnjmeadmkbkikaaGreatDoorHj
namespace Go.Proofs.YtnjmeadmkbkikaaGreatDoor
open Go.IntWalk
set_option maxRecDepth 100000
set_option linter.unusedVariables false
set_option linter.unusedSimpArgs false
set_option maxHeartbeats 1000000

theorem u64n {n : Nat} (h : n < 18446744073709551616) : IntKind.u64.wrap (n : Int) = n := by rw [IntKind.wrap_u64]; omega
theorem ofIntN (w n : Nat) : BitVec.ofInt w (n : Int) = BitVec.ofNat w n := by
  apply BitVec.eq_of_toNat_eq
  rw [BitVec.toNat_ofInt, BitVec.toNat_ofNat]
  omega
theorem u64and {a b : Nat} (ha : a < 18446744073709551616) (hb : b < 18446744073709551616) : bitsOp .and .u64 (a : Int) (b : Int) = ((a &&& b : Nat) : Int) := by
  have hor : a &&& b ≤ a := Nat.and_le_left
  show IntKind.u64.wrap ((BitVec.ofInt 64 (a : Int) &&& BitVec.ofInt 64 (b : Int)).toNat : Int) = _
  rw [ofIntN, ofIntN, BitVec.toNat_and, BitVec.toNat_ofNat, BitVec.toNat_ofNat, Nat.mod_eq_of_lt (by omega), Nat.mod_eq_of_lt (by omega)]
  exact u64n (by omega)
theorem u64or {a b : Nat} (ha : a < 18446744073709551616) (hb : b < 18446744073709551616) : bitsOp .or .u64 (a : Int) (b : Int) = ((a ||| b : Nat) : Int) := by
  have hor : a ||| b < 2 ^ 64 := Nat.or_lt_two_pow (by omega) (by omega)
  show IntKind.u64.wrap ((BitVec.ofInt 64 (a : Int) ||| BitVec.ofInt 64 (b : Int)).toNat : Int) = _
  rw [ofIntN, ofIntN, BitVec.toNat_or, BitVec.toNat_ofNat, BitVec.toNat_ofNat, Nat.mod_eq_of_lt (by omega), Nat.mod_eq_of_lt (by omega)]
  exact u64n (by omega)
theorem u64xor {a b : Nat} (ha : a < 18446744073709551616) (hb : b < 18446744073709551616) : bitsOp .xor .u64 (a : Int) (b : Int) = ((a ^^^ b : Nat) : Int) := by
  have hor : a ^^^ b < 2 ^ 64 := Nat.xor_lt_two_pow (by omega) (by omega)
  show IntKind.u64.wrap ((BitVec.ofInt 64 (a : Int) ^^^ BitVec.ofInt 64 (b : Int)).toNat : Int) = _
  rw [ofIntN, ofIntN, BitVec.toNat_xor, BitVec.toNat_ofNat, BitVec.toNat_ofNat, Nat.mod_eq_of_lt (by omega), Nat.mod_eq_of_lt (by omega)]
  exact u64n (by omega)
theorem pow64 {k : Nat} (h : k < 64) : 2 ^ k < 18446744073709551616 := Nat.lt_of_lt_of_le (Nat.pow_lt_pow_right (by decide) h) (by decide)
/-- One bit. -/
theorem u64bit {k : Int} {n : Nat} (h : k = (n : Int)) (hn : n < 64) : IntKind.u64.wrap (1 * 2 ^ (min k.toNat IntKind.u64.bits)) = ((2 ^ n : Nat) : Int) := by
  have := pow64 hn
  rw [h, Int.toNat_natCast, Nat.min_eq_left (show n ≤ IntKind.u64.bits by show _ ≤ 64; omega), Int.one_mul, ← int_pow, u64n (by omega)]
theorem orbit {m n : Nat} (hm : m < 18446744073709551616) (hn : n < 64) : m ||| 2 ^ n < 18446744073709551616 := Nat.or_lt_two_pow (n := 64) (by omega) (pow64 hn)
theorem tb_orbit (m n j : Nat) : (m ||| 2 ^ n).testBit j = (m.testBit j || decide (n = j)) := by
  rw [Nat.testBit_or, Nat.testBit_two_pow]
/-- Two words of bits. -/
def Bits2 (m0 m1 : Nat) (P : Nat → Bool) : Prop := m0 < 18446744073709551616 ∧ m1 < 18446744073709551616 ∧ ∀ j, j < 64 → m0.testBit j = P j ∧ m1.testBit j = P (64 + j)
theorem Bits2.zero : Bits2 0 0 (fun _ => false) := ⟨by decide, by decide, fun j _ => by simp⟩
theorem Bits2.congr {m0 m1 : Nat} {P Q : Nat → Bool} (h : Bits2 m0 m1 P) (e : ∀ p, p < 128 → P p = Q p) : Bits2 m0 m1 Q :=
  ⟨h.1, h.2.1, fun j hj => by rw [(h.2.2 j hj).1, (h.2.2 j hj).2]; exact ⟨e j (by omega), e (64 + j) (by omega)⟩⟩
theorem Bits2.set0 {m0 m1 i : Nat} {P : Nat → Bool} (h : Bits2 m0 m1 P) (hi : i < 64) : Bits2 (m0 ||| 2 ^ i) m1 (fun p => P p || decide (i = p)) :=
  ⟨orbit h.1 hi, h.2.1, fun j hj => by
    rw [tb_orbit, (h.2.2 j hj).1, (h.2.2 j hj).2]
    refine ⟨rfl, ?_⟩
    have : ¬ i = 64 + j := by omega
    simp [this]⟩
theorem Bits2.set1 {m0 m1 i : Nat} {P : Nat → Bool} (h : Bits2 m0 m1 P) (hi : i < 64) : Bits2 m0 (m1 ||| 2 ^ i) (fun p => P p || decide (64 + i = p)) :=
  ⟨h.1, orbit h.2.1 hi, fun j hj => by
    rw [tb_orbit, (h.2.2 j hj).1, (h.2.2 j hj).2]
    refine ⟨?_, ?_⟩
    · have : ¬ 64 + i = j := by omega
      simp [this]
    · by_cases e : i = j
      · simp [e]
      · have : ¬ 64 + i = 64 + j := by omega
        simp [e, this]⟩

/-- Literals among the first bits; ones among them. -/
def litTo (B : List BitD) (n p : Nat) : Bool := match B[p]? with | some y => decide (p < n) && decide (y.arg < 0 ∧ y.lit ≠ 120) | none => false
def oneTo (B : List BitD) (n p : Nat) : Bool := match B[p]? with | some y => decide (p < n) && (decide (y.arg < 0 ∧ y.lit ≠ 120) && decide (y.lit = 49)) | none => false
theorem litTo_zero (B : List BitD) (p : Nat) : litTo B 0 p = false := by unfold litTo; cases B[p]? <;> simp
theorem oneTo_zero (B : List BitD) (p : Nat) : oneTo B 0 p = false := by unfold oneTo; cases B[p]? <;> simp
theorem litTo_succ {B : List BitD} {n : Nat} {x : BitD} (hx : B[n]? = some x) (p : Nat) : litTo B (n + 1) p = (litTo B n p || (decide (x.arg < 0 ∧ x.lit ≠ 120) && decide (n = p))) := by
  unfold litTo
  by_cases e : n = p
  · subst e; rw [hx]; simp
  · cases B[p]? with
    | none => simp [e]
    | some y =>
      have : (p < n + 1) ↔ p < n := by omega
      simp [e, this]
theorem oneTo_succ {B : List BitD} {n : Nat} {x : BitD} (hx : B[n]? = some x) (p : Nat) : oneTo B (n + 1) p = (oneTo B n p || ((decide (x.arg < 0 ∧ x.lit ≠ 120) && decide (x.lit = 49)) && decide (n = p))) := by
  unfold oneTo
  by_cases e : n = p
  · subst e; rw [hx]; simp
  · cases B[p]? with
    | none => simp [e]
    | some y =>
      have : (p < n + 1) ↔ p < n := by omega
      simp [e, this]
/-- What a pattern's words are. -/
structure PatOK (B : List BitD) (n m0 m1 w0 w1 : Nat) : Prop where
  mask : Bits2 m0 m1 (litTo B n)
  want : Bits2 w0 w1 (oneTo B n)
theorem PatOK.zero (B : List BitD) : PatOK B 0 0 0 0 0 := ⟨Bits2.zero.congr fun p _ => (litTo_zero B p).symm, Bits2.zero.congr fun p _ => (oneTo_zero B p).symm⟩
theorem PatOK.skip {B : List BitD} {n m0 m1 w0 w1 : Nat} {x : BitD} (h : PatOK B n m0 m1 w0 w1) (hx : B[n]? = some x) (hl : ¬ (x.arg < 0 ∧ x.lit ≠ 120)) : PatOK B (n + 1) m0 m1 w0 w1 :=
  ⟨h.mask.congr fun p _ => by rw [litTo_succ hx, decide_eq_false hl]; simp, h.want.congr fun p _ => by rw [oneTo_succ hx, decide_eq_false hl]; simp⟩
theorem PatOK.low {B : List BitD} {n m0 m1 w0 w1 : Nat} {x : BitD} (h : PatOK B n m0 m1 w0 w1) (hx : B[n]? = some x) (hl : x.arg < 0 ∧ x.lit ≠ 120) (hn : n < 64) :
    (x.lit = 49 → PatOK B (n + 1) (m0 ||| 2 ^ n) m1 (w0 ||| 2 ^ n) w1) ∧ (¬ x.lit = 49 → PatOK B (n + 1) (m0 ||| 2 ^ n) m1 w0 w1) :=
  ⟨fun h1 => ⟨(h.mask.set0 hn).congr fun p _ => by rw [litTo_succ hx, decide_eq_true hl]; simp, (h.want.set0 hn).congr fun p _ => by rw [oneTo_succ hx, decide_eq_true hl, decide_eq_true h1]; simp⟩,
   fun h1 => ⟨(h.mask.set0 hn).congr fun p _ => by rw [litTo_succ hx, decide_eq_true hl]; simp, h.want.congr fun p _ => by rw [oneTo_succ hx, decide_eq_true hl, decide_eq_false h1]; simp⟩⟩
theorem PatOK.high {B : List BitD} {n k m0 m1 w0 w1 : Nat} {x : BitD} (h : PatOK B n m0 m1 w0 w1) (hx : B[n]? = some x) (hl : x.arg < 0 ∧ x.lit ≠ 120) (hk : n = 64 + k) (hn : k < 64) :
    (x.lit = 49 → PatOK B (n + 1) m0 (m1 ||| 2 ^ k) w0 (w1 ||| 2 ^ k)) ∧ (¬ x.lit = 49 → PatOK B (n + 1) m0 (m1 ||| 2 ^ k) w0 w1) := by
  subst hk
  exact ⟨fun h1 => ⟨(h.mask.set1 hn).congr fun p _ => by rw [litTo_succ hx, decide_eq_true hl]; simp, (h.want.set1 hn).congr fun p _ => by rw [oneTo_succ hx, decide_eq_true hl, decide_eq_true h1]; simp⟩,
   fun h1 => ⟨(h.mask.set1 hn).congr fun p _ => by rw [litTo_succ hx, decide_eq_true hl]; simp, h.want.congr fun p _ => by rw [oneTo_succ hx, decide_eq_true hl, decide_eq_false h1]; simp⟩⟩

theorem ex_bit {n : Nat} (h : n ≠ 0) : ∃ j, n.testBit j = true := Nat.exists_testBit_of_ne_zero h
/-- Words that differ at literals of both. -/
theorem diff_word {a b u v : Nat} (h : a &&& b &&& (u ^^^ v) ≠ 0) (ha : a < 18446744073709551616) : ∃ j, j < 64 ∧ a.testBit j = true ∧ b.testBit j = true ∧ u.testBit j ≠ v.testBit j := by
  obtain ⟨j, hj⟩ := ex_bit h
  rw [Nat.testBit_and, Nat.testBit_and, Nat.testBit_xor] at hj
  have h1 : a.testBit j = true := by simp at hj; exact hj.1.1
  have h2 : b.testBit j = true := by simp at hj; exact hj.1.2
  have h3 : u.testBit j ≠ v.testBit j := by simp at hj; exact hj.2
  refine ⟨j, ?_, h1, h2, h3⟩
  rcases Nat.lt_or_ge j 64 with h | h
  · exact h
  · have := Nat.testBit_lt_two_pow (Nat.lt_of_lt_of_le ha (show 18446744073709551616 ≤ 2 ^ j from Nat.le_trans (by decide) (Nat.pow_le_pow_right (by decide) h)))
    rw [this] at h1; cases h1
theorem litTo_true {B : List BitD} {n p : Nat} (h : litTo B n p = true) : ∃ x, B[p]? = some x ∧ isLit x := by
  unfold litTo at h
  cases e : B[p]? with
  | none => rw [e] at h; cases h
  | some y => rw [e] at h; simp at h; exact ⟨y, rfl, h.2⟩
theorem oneTo_lit {B : List BitD} {p : Nat} {x : BitD} (h : B[p]? = some x) (hl : isLit x) : oneTo B B.length p = decide (x.lit = 49) := by
  unfold oneTo
  rw [h]
  have := (List.getElem?_eq_some_iff.1 h).1
  have h2 := hl.1; have h3 := hl.2
  simp [this, h2, h3]
theorem diff_at {A B : List BitD} {p : Nat} (ha : litTo A A.length p = true) (hb : litTo B B.length p = true) (hne : oneTo A A.length p ≠ oneTo B B.length p) : DiffP A B := by
  obtain ⟨x, hx, lx⟩ := litTo_true ha
  obtain ⟨y, hy, ly⟩ := litTo_true hb
  rw [oneTo_lit hx lx, oneTo_lit hy ly] at hne
  refine ⟨p, x, y, hx, hy, lx, ly, ?_⟩
  by_cases e1 : x.lit = 49 <;> by_cases e2 : y.lit = 49 <;> simp [e1, e2] at hne ⊢
theorem diff_low {A B : List BitD} {a0 a1 u0 u1 b0 b1 v0 v1 : Nat} (ha : PatOK A A.length a0 a1 u0 u1) (hb : PatOK B B.length b0 b1 v0 v1) (h : a0 &&& b0 &&& (u0 ^^^ v0) ≠ 0) : DiffP A B := by
  obtain ⟨j, hj, h1, h2, h3⟩ := diff_word h ha.mask.1
  rw [(ha.mask.2.2 j hj).1] at h1
  rw [(hb.mask.2.2 j hj).1] at h2
  rw [(ha.want.2.2 j hj).1, (hb.want.2.2 j hj).1] at h3
  exact diff_at h1 h2 h3
theorem diff_high {A B : List BitD} {a0 a1 u0 u1 b0 b1 v0 v1 : Nat} (ha : PatOK A A.length a0 a1 u0 u1) (hb : PatOK B B.length b0 b1 v0 v1) (h : a1 &&& b1 &&& (u1 ^^^ v1) ≠ 0) : DiffP A B := by
  obtain ⟨j, hj, h1, h2, h3⟩ := diff_word h ha.mask.2.1
  rw [(ha.mask.2.2 j hj).2] at h1
  rw [(hb.mask.2.2 j hj).2] at h2
  rw [(ha.want.2.2 j hj).2, (hb.want.2.2 j hj).2] at h3
  exact diff_at h1 h2 h3

/-- The number that the first bits of an operand make. -/
def IsNumTo (A : List BitD) (i : Int) (one : Nat → Bool) (t n : Nat) : Prop := ∀ m : Nat, n.testBit m = true ↔ ∃ (p : Nat) (x : BitD), p < t ∧ A[p]? = some x ∧ x.arg = i ∧ x.num = (m : Int) ∧ one p = true
theorem IsNumTo.zero (A : List BitD) (i : Int) (one : Nat → Bool) : IsNumTo A i one 0 0 := fun m => ⟨fun h => by simp at h, fun ⟨p, x, h, _⟩ => absurd h (Nat.not_lt_zero _)⟩
theorem IsNumTo.skip {A : List BitD} {i : Int} {one : Nat → Bool} {t n : Nat} {x : BitD} (h : IsNumTo A i one t n) (hx : A[t]? = some x) (hs : x.arg = i → one t = false) : IsNumTo A i one (t + 1) n := fun m => by
  rw [h m]
  constructor
  · rintro ⟨p, y, h1, h2⟩; exact ⟨p, y, by omega, h2⟩
  · rintro ⟨p, y, h1, h2, h3, h4, h5⟩
    by_cases e : p = t
    · subst e
      obtain rfl : x = y := by rw [hx] at h2; exact Option.some.inj h2
      rw [hs h3] at h5; cases h5
    · exact ⟨p, y, by omega, h2, h3, h4, h5⟩
theorem IsNumTo.set {A : List BitD} {i : Int} {one : Nat → Bool} {t n k : Nat} {x : BitD} (h : IsNumTo A i one t n) (hx : A[t]? = some x) (ha : x.arg = i) (hk : x.num = (k : Int)) (ho : one t = true) : IsNumTo A i one (t + 1) (n ||| 2 ^ k) := fun m => by
  rw [tb_orbit]
  by_cases e : k = m
  · subst e
    simp only [decide_true, Bool.or_true, true_iff]
    exact ⟨t, x, by omega, hx, ha, hk, ho⟩
  · simp only [decide_eq_false e, Bool.or_false, h m]
    constructor
    · rintro ⟨p, y, h1, h2⟩; exact ⟨p, y, by omega, h2⟩
    · rintro ⟨p, y, h1, h2, h3, h4, h5⟩
      by_cases e2 : p = t
      · subst e2
        obtain rfl : x = y := by rw [hx] at h2; exact Option.some.inj h2
        omega
      · exact ⟨p, y, by omega, h2, h3, h4, h5⟩
theorem IsNumTo.all {A : List BitD} {i : Int} {one : Nat → Bool} {n : Nat} (h : IsNumTo A i one A.length n) : IsNum A i one n := fun m => by
  rw [h m]
  constructor
  · rintro ⟨p, y, h1, h2⟩; exact ⟨p, y, h2⟩
  · rintro ⟨p, y, h2⟩; exact ⟨p, y, (List.getElem?_eq_some_iff.1 h2.1).1, h2⟩
theorem IsNumTo.lt {A : List BitD} {i : Int} {one : Nat → Bool} {t n k : Nat} (h : IsNumTo A i one t n) (hb : ∀ (p : Nat) (x : BitD), A[p]? = some x → x.arg = i → x.num < (k : Int)) : n < 2 ^ k := by
  refine Nat.lt_pow_two_of_testBit n fun j hj => ?_
  cases e : n.testBit j
  · rfl
  · obtain ⟨p, x, _, a, b, c, _⟩ := (h j).1 e
    have := hb p x a b
    omega

end Go.Proofs.YtnjmeadmkbkikaaGreatDoor
