/-
  The document's answer on bits: quotients.
-/
import Derived.Test.YtkjhkcpgkccocaaLf
import Derived.Test.YtkjhkcpgkccocaaFrz
namespace Go.Proofs.Ytkjhkcpgkccocaa
open Go.IntWalk
set_option maxRecDepth 100000
set_option linter.unusedVariables false
set_option linter.unusedSimpArgs false

theorem set_bit (x w m : Nat) (hm : m < w) : (LB (bitsL x w)).set m (.bool true) = LB (bitsL (x ||| 2 ^ m) w) := by
  apply List.ext_getElem?
  intro i
  by_cases h : i = m
  · subst h
    rw [List.getElem?_set_self (by rw [LBb_len]; exact hm), LBb_get _ _ _ hm, Nat.testBit_or, Nat.testBit_two_pow_self, Bool.or_true]
  · rw [List.getElem?_set_ne (fun e => h e.symm)]
    by_cases hi : i < w
    · rw [LBb_get _ _ _ hi, LBb_get _ _ _ hi, Nat.testBit_or, Nat.testBit_two_pow_of_ne (fun e => h e.symm), Bool.or_false]
    · rw [List.getElem?_eq_none (by rw [LBb_len]; omega), List.getElem?_eq_none (by rw [LBb_len]; omega)]

theorem cons_bit (b : Bool) (x w : Nat) : T.bool b :: LB (bitsL x w) = LB (bitsL (2 * x + b.toNat) (w + 1)) := by
  have hb : b.toNat ≤ 1 := by cases b <;> simp
  have : bitsL (2 * x + b.toNat) (w + 1) = b :: bitsL x w := by
    apply List.ext_getElem?
    intro i
    cases i with
    | zero =>
      rw [bitsL_get, if_pos (by omega), List.getElem?_cons_zero, bit_eq]
      cases b <;> simp <;> omega
    | succ i =>
      rw [bitsL_get, List.getElem?_cons_succ, bitsL_get]
      by_cases h : i < w
      · rw [if_pos (by omega), if_pos h, bit_eq, bit_eq, Nat.pow_succ, Nat.mul_comm (2 ^ i), ← Nat.div_div_eq_div_mul, show (2 * x + b.toNat) / 2 = x by omega]
      · rw [if_neg (by omega), if_neg h]
  rw [this]; rfl

def rdivS (x y w k : Nat) : St :=
  ⟨[(0, .t (.vec 1 (LB (bitsL x w)))), (6, .t (.int .i64 w)), (7, .sl 2 0 0 (w + 1)), (8, .sl 3 0 0 w), (9, .sl 4 0 0 (w + 1)), (10, .t (.int .i64 ((k : Int) - 1)))],
   [.arr tB 1 true 0 (.ts []), .arr tB 1 true 0 (.ts []), arrOf (bitsL y (w + 1)), arrOf (bitsL (x / 2 ^ k / y * 2 ^ k) w), arrOf (bitsL (x / 2 ^ k % y) (w + 1))]⟩

def vB (l : List Bool) : AV := .t (.vec 1 (LB l))

theorem some_sl {b n m : Nat} (h : n = m) : some (AV.sl b 0 0 n) = some (AV.sl b 0 0 m) := by rw [h]
theorem some_arr {L : List T} {l : List Bool} (h : L = LB l) : some (Blk.arr tB 1 false 0 (.ts L)) = some (arrOf l) := by rw [h]; rfl

theorem rdiv_runs {L L' : List T} (x y w : Nat) (h : L = LB (bitsL x w)) (h' : L' = LB (bitsL y w)) (hw : w ≤ 400) (hx : x < 2 ^ w) (hy : y < 2 ^ w) (hy0 : 0 < y) :
    Runs Try.prog 77 [.vec 1 L, .vec 1 L'] (.tup [vB (bitsL (x / y) w), vB (bitsL (x % y) w)]) := by
  subst h h'
  have hylen : (LB (bitsL y w)).length = w := LBb_len _ _
  have hp : (2 : Nat) ^ (w + 1) = 2 * 2 ^ w := by rw [Nat.pow_succ, Nat.mul_comm]
  refine Runs.of_call ?_ rfl
  refine CallS.of_fn tab_ok reg_ok Try.func77 rfl rfl ?_
  refine And.intro rfl (ck_intro (fits1 (n := 0 + (LB (bitsL y w)).length) (by rw [hylen]; omega)) ?_)
  refine And.intro (by simp [seqOf, Sq.length, Sq.app, toTs]) (ck_intro (fits1 (n := 0 + (LB (bitsL y w)).length + 1) (by rw [hylen]; omega)) ?_)
  have hz := zeros_runs w (by omega)
  have hz1 := zeros_runs (w + 1) (by omega)
  have hxl : (((LB (bitsL x w)).length : Nat) : Int) = (w : Int) := by rw [LBb_len]
  have e1 : IntKind.i64.wrap (((LB (bitsL x w)).length : Int) + 1) = ((w + 1 : Nat) : Int) := by rw [hxl, i64_in _ (by omega)]; omega
  rw [← hxl] at hz
  rw [← e1] at hz1
  refine CallS.pure hz rfl (CallS.pure hz1 rfl ?_)
  have ewide : [] ++ LB (bitsL y w) ++ [T.bool false] = LB (bitsL y (w + 1)) := by
    rw [bitsL_succ, LB_snoc, Nat.testBit_lt_two_pow hy]; rfl
  have e0 : x / 2 ^ w = 0 := Nat.div_eq_of_lt hx
  refine loop_on (fun k : Nat => k ≤ w) (rdivS x y w) (fun k => k) w (by omega) (weak_gc [0, 1, 2, 4, 5] rfl ⟨rfl, congrArg (fun n => some (AV.t (.int .i64 n))) hxl, ?_, ?_, ?_, ?_, trivial⟩ ⟨rfl, rfl, some_arr ewide, ?_, ?_, trivial⟩) (fun k hk => ?_)
  · exact some_sl (n := 0 + (LB (bitsL y w)).length + 1) (by rw [hylen]; omega)
  · exact some_sl (LBb_len _ _)
  · exact some_sl (LBb_len _ _)
  · exact congrArg (fun n => some (AV.t (.int .i64 n))) (by rw [hxl, i64_in _ (by omega)])
  · rw [e0]; exact some_arr (by rw [Nat.zero_div, Nat.zero_mul])
  · rw [e0]; exact some_arr (by rw [Nat.zero_mod])
  refine br_intro (fun h => ?_) (fun h => ?_)
  · have h := of_decide_eq_true h
    obtain ⟨m, rfl⟩ : ∃ m, k = m + 1 := ⟨k - 1, by omega⟩
    have e : (((m + 1 : Nat) : Int) - 1) = (m : Int) := by omega
    have i1 : (Nat.beq 1 1 && decide (0 ≤ (((m + 1 : Nat) : Int) - 1))) = true := idxB (by omega)
    have o1 : (LB (bitsL x w))[(((m + 1 : Nat) : Int) - 1).toNat]? = some (.bool (x.testBit m)) := by rw [e, Int.toNat_natCast]; exact LBb_get x w m (by omega)
    have hR := Nat.mod_lt (x / 2 ^ (m + 1)) hy0
    refine draw_intro [(0, false), (1, false), (2, false), (3, false), (4, false), (5, false), (6, false), (7, false), (8, true), (9, true)] (by decide +kernel) ?_
    refine ck_intro i1 (opt_intro o1 ?_)
    refine ck_intro (by simp; omega) ?_
    have ht : ((LB (bitsL (x / 2 ^ (m + 1) % y) (w + 1))).drop (0 + 0)).take ((w : Int).toNat - 0) = LB (bitsL (x / 2 ^ (m + 1) % y) w) := by
      have := part_bits (x / 2 ^ (m + 1) % y) (w + 1) 0 w (by omega)
      rw [Nat.pow_zero, Nat.div_one] at this
      exact this
    have hl2 : (((LB (bitsL (x / 2 ^ (m + 1) % y) (w + 1))).drop (0 + 0)).take ((w : Int).toNat - 0)).length = w := by rw [ht, LBb_len]
    refine And.intro rfl (ck_intro (fits1 (n := 1 + (((LB (bitsL (x / 2 ^ (m + 1) % y) (w + 1))).drop (0 + 0)).take ((w : Int).toNat - 0)).length) (by rw [hl2]; omega)) ?_)
    have hbit : x / 2 ^ m % 2 = (x.testBit m).toNat := by
      have := div_bit x m
      have hb : (x.testBit m).toNat ≤ 1 := by cases x.testBit m <;> simp
      omega
    have hnr : 2 * (x / 2 ^ (m + 1) % y) + (x.testBit m).toNat = nextR x y m := by unfold nextR; rw [hbit]
    have hrow : [T.bool (x.testBit m)] ++ ((LB (bitsL (x / 2 ^ (m + 1) % y) (w + 1))).drop (0 + 0)).take ((w : Int).toNat - 0) = LB (bitsL (nextR x y m) (w + 1)) := by
      rw [ht, List.singleton_append, cons_bit, hnr]
    have hrl : 1 + (((LB (bitsL (x / 2 ^ (m + 1) % y) (w + 1))).drop (0 + 0)).take ((w : Int).toNat - 0)).length = w + 1 := by rw [hl2]; omega
    have hxn := next_lt (a := x) (b := y) (m := m) hy0
    have hxe := next_eq x y m
    have hsnap : (([T.bool (x.testBit m)] ++ ((LB (bitsL (x / 2 ^ (m + 1) % y) (w + 1))).drop (0 + 0)).take ((w : Int).toNat - 0)).drop 0).take (1 + (((LB (bitsL (x / 2 ^ (m + 1) % y) (w + 1))).drop (0 + 0)).take ((w : Int).toNat - 0)).length) = LB (bitsL (nextR x y m) (w + 1)) := by
      rw [hrow, hrl]; exact LB_alln (by rw [bitsL_len])
    have hwide : ((LB (bitsL y (w + 1))).drop 0).take (w + 1) = LB (bitsL y (w + 1)) := LB_alln (by rw [bitsL_len])
    have e4 : IntKind.i64.wrap (((m + 1 : Nat) : Int) - 1 - 1) = (m : Int) - 1 := by rw [i64_in _ (by omega)]; omega
    have e4' : some (AV.t (.int .i64 (IntKind.i64.wrap (((m + 1 : Nat) : Int) - 1 - 1)))) = some (AV.t (.int .i64 ((m : Int) - 1))) := by rw [e4]
    refine CallS.snap (rless_runs (nextR x y m) y (w + 1) hsnap hwide (by omega) (by omega) (by omega)) rfl rfl ?_
    refine br_intro (fun hc => ?_) (fun hc => ?_)
    · have hc : ¬ nextR x y m < y := by simpa using hc
      have hle : y ≤ nextR x y m := by omega
      have e' : x / 2 ^ m = y * (2 * (x / 2 ^ (m + 1) / y) + 1) + (nextR x y m - y) := by rw [Nat.mul_add, Nat.mul_one]; omega
      obtain ⟨k1, k2⟩ := div_less (show nextR x y m - y < y by omega) e'
      refine CallS.snap (rnot_runs y (w + 1) hwide (by omega)) rfl (oB_flat _) ?_
      refine CallS.snap (radd_runs (nextR x y m) (compl y (w + 1)) (w + 1) 1 hsnap (LB_all _) (by omega) true rfl) rfl (oB_flat _) ?_
      have hQ : x / 2 ^ (m + 1) / y * 2 ^ (m + 1) < 2 ^ w := by
        refine Nat.lt_of_le_of_lt ?_ hx
        exact Nat.le_trans (Nat.mul_le_mul_right _ (Nat.div_le_self _ _)) (Nat.div_mul_le_self _ _)
      refine ck_intro ?_ ?_
      · show (Nat.beq 0 0 && Nat.beq 1 1 && inB (((m + 1 : Nat) : Int) - 1) w) = true
        rw [e]; simp [inB]; omega
      have o2 : (LB (bitsL (x / 2 ^ (m + 1) / y * 2 ^ (m + 1)) w))[0 + (((m + 1 : Nat) : Int) - 1).toNat]? = some (.bool ((x / 2 ^ (m + 1) / y * 2 ^ (m + 1)).testBit m)) := by
        rw [e, Int.toNat_natCast, Nat.zero_add]; exact LBb_get _ w m (by omega)
      refine opt_intro o2 ?_
      have eq2 : (x / 2 ^ (m + 1) / y * 2 ^ (m + 1)) ||| 2 ^ m = (2 * (x / 2 ^ (m + 1) / y) + 1) * 2 ^ m := by
        rw [or_add (Nat.pow_lt_pow_right (by omega) (by omega)), Nat.pow_succ, Nat.add_mul, Nat.one_mul, Nat.mul_comm 2, Nat.mul_assoc, Nat.mul_comm 2]
      have hset : (LB (bitsL (x / 2 ^ (m + 1) / y * 2 ^ (m + 1)) w)).set (0 + (((m + 1 : Nat) : Int) - 1).toNat) (.bool true) = LB (bitsL (x / 2 ^ m / y * 2 ^ m) w) := by
        rw [e, Int.toNat_natCast, Nat.zero_add, set_bit _ _ _ (by omega), eq2, k1]
      have hcm : compl y (w + 1) = 2 ^ (w + 1) - 1 - y := by unfold compl; rw [Nat.mod_eq_of_lt (by omega)]
      have hadd : bitsL (nextR x y m + compl y (w + 1) + 1) (w + 1) = bitsL (x / 2 ^ m % y) (w + 1) := by
        apply bitsL_congr
        rw [k2, hcm, show nextR x y m + (2 ^ (w + 1) - 1 - y) + 1 = (nextR x y m - y) + 2 ^ (w + 1) by omega, Nat.add_mod_right]
      exact ⟨⟨m, by omega⟩, weak_gc [0, 1, 2, 3, 7] rfl ⟨rfl, rfl, rfl, rfl, some_sl (LBb_len _ _), e4', trivial⟩ ⟨rfl, rfl, rfl, some_arr hset, some_arr (congrArg LB hadd), trivial⟩, by show m < m + 1; omega⟩
    · have hc : nextR x y m < y := by simpa using hc
      obtain ⟨k1, k2⟩ := div_less hc hxe
      have hq : x / 2 ^ (m + 1) / y * 2 ^ (m + 1) = x / 2 ^ m / y * 2 ^ m := by rw [k1, Nat.pow_succ, Nat.mul_comm 2, Nat.mul_assoc, Nat.mul_comm 2]
      exact ⟨⟨m, by omega⟩, weak_gc [0, 1, 2, 3, 5] rfl ⟨rfl, rfl, rfl, rfl, some_sl hrl, e4', trivial⟩ ⟨rfl, rfl, rfl, some_arr (by rw [hq]), some_arr (by rw [hrow, k2]), trivial⟩, by show m < m + 1; omega⟩
  · have h := of_decide_eq_false h
    have hk0 : k = 0 := by omega
    subst hk0
    refine draw_intro [(0, false), (1, false), (2, false), (3, false), (4, false), (5, true)] (by decide +kernel) ?_
    refine ck_intro (by simp; omega) ?_
    have h1 : ((LB (bitsL (x / 2 ^ 0 / y * 2 ^ 0) w)).drop 0).take w = LB (bitsL (x / y) w) := by
      rw [LB_alln (by rw [bitsL_len])]; simp
    have h2 : ((LB (bitsL (x / 2 ^ 0 % y) (w + 1))).drop (0 + 0)).take ((w : Int).toNat - 0) = LB (bitsL (x % y) w) := by
      have := part_bits (x % y) (w + 1) 0 w (by omega)
      rw [Nat.pow_zero, Nat.div_one] at this
      rw [Nat.pow_zero, Nat.div_one]
      exact this
    refine And.intro (LeX.refl _ _) ?_
    exact And.intro ⟨congrArg (fun l => some (T.vec 1 l)) h1, congrArg (fun l => some (T.vec 1 l)) h2, trivial⟩ rfl

end Go.Proofs.Ytkjhkcpgkccocaa
