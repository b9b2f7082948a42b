/-
  The document's answer on bits: from numbers to lists of bits and back.
-/
import Derived.Test.YtkjhkcpgkccocaaLa
namespace Go.Proofs.Ytkjhkcpgkccocaa
open Go.IntWalk
set_option maxRecDepth 100000
set_option linter.unusedVariables false
set_option linter.unusedSimpArgs false

theorem bit_eq (n k : Nat) : n.testBit k = decide (n / 2 ^ k % 2 = 1) := by
  rw [Nat.testBit_eq_decide_div_mod_eq]

theorem bit_runs (n : Nat) (k : Nat) (hn : n < 2 ^ 128) (hk : k < 1000) :
    Runs Try.prog 70 [.int .u64 ((n / 18446744073709551616 : Nat) : Int), .int .u64 ((n % 18446744073709551616 : Nat) : Int), .int .i64 (k : Int)] (.t (.bool (n.testBit k))) := by
  refine Runs.of_call ?_ rfl
  refine CallS.of_fn tab_ok reg_ok Try.func70 rfl rfl ?_
  have fin : ∀ (x m : Nat), ((((x : Int).fdiv (2 ^ (min (m : Int).toNat IntKind.u64.bits))).tmod 2 == 1) = decide (x / 2 ^ (min m 64) % 2 = 1)) := by
    intro x m
    rw [shr_u64]
    have : (((x / 2 ^ (min m 64) : Nat) : Int).tmod 2) = ((x / 2 ^ (min m 64) % 2 : Nat) : Int) := (Int.ofNat_tmod _ 2).symm
    rw [this]
    by_cases h : x / 2 ^ (min m 64) % 2 = 1
    · rw [decide_eq_true h, h]; rfl
    · rw [decide_eq_false h]
      exact beq_eq_false_iff_ne.2 (by omega)
  refine br_intro (fun h => ?_) (fun h => ?_)
  · have h := of_decide_eq_true h
    have e : IntKind.u64.wrap (k : Int) = (k : Int) := u64_nat (by omega)
    refine And.intro (congrArg (fun b => some (T.bool b)) ?_) rfl
    rw [e, fin, Nat.min_eq_left (by omega), bit_eq, decide_eq_decide]
    have : (n % 18446744073709551616) / 2 ^ k % 2 = n / 2 ^ k % 2 := by
      have h1 : (n % 2 ^ 64).testBit k = n.testBit k := by rw [Nat.testBit_mod_two_pow]; simp; omega
      rw [bit_eq, bit_eq, decide_eq_decide] at h1
      have := Nat.mod_lt (n % 2 ^ 64 / 2 ^ k) (show 2 > 0 by omega)
      have := Nat.mod_lt (n / 2 ^ k) (show 2 > 0 by omega)
      show n % 2 ^ 64 / 2 ^ k % 2 = _
      omega
    rw [this]
  · have h := of_decide_eq_false h
    refine br_intro (fun h2 => ?_) (fun h2 => ?_)
    · have h2 := of_decide_eq_true h2
      have e : IntKind.u64.wrap (IntKind.i64.wrap ((k : Int) - 64)) = ((k - 64 : Nat) : Int) := by
        rw [i64_in _ (by omega), IntKind.wrap_u64]; omega
      refine ck_intro (by rw [e]; simp) ?_
      refine And.intro (congrArg (fun b => some (T.bool b)) ?_) rfl
      rw [e]
      refine (fin _ _).trans ?_
      rw [Nat.min_eq_left (by omega), bit_eq, decide_eq_decide]
      have : (n / 18446744073709551616) / 2 ^ (k - 64) = n / 2 ^ k := by
        rw [show (18446744073709551616 : Nat) = 2 ^ 64 from rfl, Nat.div_div_eq_div_mul, ← Nat.pow_add, show 64 + (k - 64) = k by omega]
      rw [this]
    · have h2 := of_decide_eq_false h2
      have : n.testBit k = false := Nat.testBit_lt_two_pow (Nat.lt_of_lt_of_le hn (Nat.pow_le_pow_right (by omega) (by omega)))
      rw [this]
      exact And.intro rfl rfl

/-- The lowest w bits. -/
def bitsL (n w : Nat) : List Bool := (List.range w).map fun i => n.testBit i

theorem bitsL_len (n w : Nat) : (bitsL n w).length = w := by simp [bitsL]
theorem bitsL_succ (n w : Nat) : bitsL n (w + 1) = bitsL n w ++ [n.testBit w] := by simp [bitsL, List.range_succ]
theorem bitsL_get (n w i : Nat) : (bitsL n w)[i]? = if i < w then some (n.testBit i) else none := by
  simp only [bitsL, List.getElem?_map]
  by_cases h : i < w
  · rw [if_pos h, List.getElem?_range h]; rfl
  · rw [if_neg h, List.getElem?_eq_none (by simp; omega)]; rfl

def bc (w : Int) (n : Nat) : List AV := [.t (.int .i64 w), .t (.int .u64 ((n / 18446744073709551616 : Nat) : Int)), .t (.int .u64 ((n % 18446744073709551616 : Nat) : Int))]

def ofS (w : Int) (n k : Nat) : St :=
  ⟨[(1, .ptr 0 0 0 0), (4, .t (.int .i64 k)), (3, .sl 2 0 0 k)], [.box (bc w n), .arr tB 1 true 0 (.ts []), .arr tB 1 false 0 (.ts (LB (bitsL n k)))]⟩

theorem rof_runs (w : Int) (n : Nat) (hn : n < 2 ^ 128) (hw : 0 ≤ w) (hw2 : w ≤ 128) : Runs Try.prog 53 [bt w n] (oB (bitsL n w.toNat)) := by
  refine Runs.of_call ?_ rfl
  refine CallS.of_fn tab_ok reg_ok Try.func53 rfl rfl ?_
  refine loop_on (fun k : Nat => (k : Int) ≤ w) (ofS w n) (fun k => w.toNat - k) 0 (by omega) (weak_of ⟨rfl, rfl, rfl, trivial⟩ rfl) (fun k hk => ?_)
  refine br_intro (fun h => ?_) (fun h => ?_)
  · have h := of_decide_eq_true h
    have ek : IntKind.i64.wrap ((k : Int) + 1) = ((k + 1 : Nat) : Int) := i64_in _ (by omega)
    refine CallS.snap (bit_runs n k hn (by omega)) rfl rfl ?_
    refine And.intro (by simp [Sq.length, LB, bitsL]) (ck_intro (fits1 (n := k + 1) (by omega)) ?_)
    refine ⟨⟨k + 1, by omega⟩, weak_gc [0, 1, 2] rfl ⟨rfl, congrArg (fun x => some (AV.t (.int .i64 x))) ek, rfl, trivial⟩ ⟨rfl, rfl, ?_, trivial⟩, by show w.toNat - (k + 1) < w.toNat - k; omega⟩
    exact congrArg (fun x => some (Blk.arr tB 1 false 0 (.ts x))) (by rw [bitsL_succ, LB_snoc]; rfl)
  · have h := of_decide_eq_false h
    have hk : k = w.toNat := by omega
    subst hk
    exact And.intro ⟨rfl, rfl, by simp [LB, bitsL]⟩ rfl

/-- The number of a list of bits. -/
def ofL : List Bool → Nat
  | [] => 0
  | b :: r => 2 * ofL r + b.toNat

theorem ofL_lt : ∀ (l : List Bool), ofL l < 2 ^ l.length
  | [] => by simp [ofL]
  | b :: r => by
    have := ofL_lt r
    have hb : b.toNat ≤ 1 := by cases b <;> simp
    simp only [ofL, List.length_cons, Nat.pow_succ]
    omega

theorem ofL_bit : ∀ (l : List Bool) (i : Nat), (ofL l).testBit i = (l[i]?).getD false
  | [], i => by simp [ofL]
  | b :: r, 0 => by
    simp only [ofL, List.getElem?_cons_zero, Option.getD_some]
    rw [bit_eq]
    cases b <;> simp <;> omega
  | b :: r, i + 1 => by
    simp only [ofL, List.getElem?_cons_succ]
    rw [← ofL_bit r i, bit_eq, bit_eq, decide_eq_decide, Nat.pow_succ, Nat.mul_comm (2 ^ i), ← Nat.div_div_eq_div_mul]
    have hb : b.toNat ≤ 1 := by cases b <;> simp
    rw [show (2 * ofL r + b.toNat) / 2 = ofL r by omega]

theorem ofL_bits (n w : Nat) : ofL (bitsL n w) = n % 2 ^ w := by
  refine Nat.eq_of_testBit_eq fun i => ?_
  rw [ofL_bit, bitsL_get, Nat.testBit_mod_two_pow]
  by_cases h : i < w
  · simp [h]
  · simp [h]

theorem bits_ofL (l : List Bool) : bitsL (ofL l) l.length = l := by
  apply List.ext_getElem?
  intro i
  rw [bitsL_get, ofL_bit]
  by_cases h : i < l.length
  · rw [if_pos h, List.getElem?_eq_getElem h]; rfl
  · rw [if_neg h, List.getElem?_eq_none (by omega)]

def btOf (l : List Bool) : T := if 1 ≤ l.length ∧ l.length ≤ 128 then bt l.length (ofL l) else bt 0 0

theorem btOf_flat (l : List Bool) : Flat (.t (btOf l)) := by unfold btOf; split <;> rfl

def toS (l : List Bool) (k : Nat) : St :=
  ⟨[(0, .t (.vec 1 (LB l))), (2, .ptr 0 0 0 0), (3, .ptr 1 0 0 0), (4, .t (.int .i64 ((k : Int) - 1)))], [.box (bc 0 0), .box (bc l.length (ofL (l.drop k)))]⟩

theorem idxB {i : Int} (h : 0 ≤ i) : (Nat.beq 1 1 && decide (0 ≤ i)) = true := by simpa using h

theorem toH {n : Nat} {a b a' b' : Int} (h1 : a = a') (h2 : b = b') : [Blk.box (bc 0 0), .box [.t (.int .i64 n), .t (.int .u64 a), .t (.int .u64 b)]] = [Blk.box (bc 0 0), .box [.t (.int .i64 n), .t (.int .u64 a'), .t (.int .u64 b')]] := by rw [h1, h2]

theorem rto_runs {L : List T} {l : List Bool} (h : L = LB l) (hl : l.length ≤ 1000) : Runs Try.prog 54 [.vec 1 L] (.t (btOf l)) := by
  subst h
  refine Runs.of_call ?_ rfl
  refine CallS.of_fn tab_ok reg_ok Try.func54 rfl rfl ?_
  refine br_intro (fun h => ?_) (fun h => br_intro (fun h2 => ?_) (fun h2 => ?_))
  · have h := of_decide_eq_true h
    rw [LB_len] at h
    rw [btOf, if_neg (by omega)]
    exact And.intro rfl rfl
  · have h2 := of_decide_eq_true h2
    rw [LB_len] at h2
    rw [btOf, if_neg (by omega)]
    exact And.intro rfl rfl
  have h := of_decide_eq_false h
  have h2 := of_decide_eq_false h2
  rw [LB_len] at h h2
  rw [btOf, if_pos (by omega)]
  refine loop_on (fun k : Nat => k ≤ l.length) (toS l) (fun k => k) l.length (by omega) (weak_of ⟨rfl, rfl, rfl, ?_, trivial⟩ ?_) (fun k hk => ?_)
  · exact congrArg (fun x => AV.t (.int .i64 x)) (by rw [LB_len, i64_in _ (by omega)])
  · rw [toS, List.drop_length]
    exact congrArg (fun n : Nat => [Blk.box (bc 0 0), .box (bc n 0)]) (LB_len l)
  refine br_intro (fun h3 => ?_) (fun h3 => ?_)
  · have h3 := of_decide_eq_true h3
    obtain ⟨m, rfl⟩ : ∃ m, k = m + 1 := ⟨k - 1, by omega⟩
    have hm : m < l.length := by omega
    have hN := ofL_lt (l.drop (m + 1))
    have hp : 2 ^ (l.drop (m + 1)).length ≤ 2 ^ 127 := Nat.pow_le_pow_right (by omega) (by simp; omega)
    have hd : ofL (l.drop m) = 2 * ofL (l.drop (m + 1)) + (l[m]).toNat := by rw [List.drop_eq_getElem_cons hm]; rfl
    generalize ofL (l.drop (m + 1)) = N at *
    have e1 : IntKind.u64.wrap (IntKind.u64.wrap (((N / 18446744073709551616 : Nat) : Int) * 2) + ((N % 18446744073709551616 : Nat) : Int).fdiv (2 ^ (min (63 : Int).toNat IntKind.u64.bits))) = ((2 * N / 18446744073709551616 : Nat) : Int) := by
      rw [show ((N % 18446744073709551616 : Nat) : Int).fdiv (2 ^ (min (63 : Int).toNat IntKind.u64.bits)) = ((N % 18446744073709551616 / 2 ^ (min 63 64) : Nat) : Int) from shr_u64 _ 63, show (2 : Nat) ^ min 63 64 = 9223372036854775808 from rfl, IntKind.wrap_u64, IntKind.wrap_u64]
      omega
    have e2 : IntKind.u64.wrap (((N % 18446744073709551616 : Nat) : Int) * 2) = ((2 * N % 18446744073709551616 : Nat) : Int) := by
      rw [IntKind.wrap_u64]; omega
    have e3 : (((m + 1 : Nat) : Int) - 1).toNat = m := by omega
    have e4 : AV.t (.int .i64 (IntKind.i64.wrap (((m + 1 : Nat) : Int) - 1 - 1))) = AV.t (.int .i64 ((m : Int) - 1)) := by rw [i64_in _ (by omega)]; congr 2; omega
    refine ck_intro (idxB (by omega)) ?_
    refine opt_intro (by rw [e3]; exact LB_get l m hm) ?_
    refine br_intro (fun h4 => ?_) (fun h4 => ?_)
    · refine ⟨⟨m, by omega⟩, weak_of ⟨rfl, rfl, rfl, e4, trivial⟩ ?_, by show m < m + 1; omega⟩
      have hd' : ofL (l.drop m) = 2 * N + 1 := by rw [hd, h4]; rfl
      rw [toS, hd']
      have e5 : IntKind.u64.wrap (IntKind.u64.wrap (((N % 18446744073709551616 : Nat) : Int) * 2) + 1) = (((2 * N + 1) % 18446744073709551616 : Nat) : Int) := by rw [e2, IntKind.wrap_u64]; omega
      have e6 : ((2 * N / 18446744073709551616 : Nat) : Int) = (((2 * N + 1) / 18446744073709551616 : Nat) : Int) := by omega
      exact toH (e1.trans e6) e5
    · refine ⟨⟨m, by omega⟩, weak_of ⟨rfl, rfl, rfl, e4, trivial⟩ ?_, by show m < m + 1; omega⟩
      have hd' : ofL (l.drop m) = 2 * N := by rw [hd, h4]; rfl
      rw [toS, hd']
      exact toH e1 e2
  · have h3 := of_decide_eq_false h3
    have hk0 : k = 0 := by omega
    subst hk0
    exact And.intro rfl rfl

end Go.Proofs.Ytkjhkcpgkccocaa
