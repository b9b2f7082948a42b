/-
  Numbers of 128 bits: what a codec's values need of them (walks).
-/
import Derived.Test.YtnjmeadmkbkikaaGreatDoorIl
namespace Go.Proofs.YtnjmeadmkbkikaaGreatDoor
open Go.IntWalk
set_option maxRecDepth 100000
set_option linter.unusedVariables false
set_option linter.unusedSimpArgs false
theorem draw_intro {ops : Array Oper} {s : St} {K : St → Prop} (σ : Ord) (h : drawOK ops (masks ops) σ [] [] = true) (k : xdr tab (CallS Tryz.prog) ops (fun _ => []) σ s K) : reg ops s K := ⟨_, σ, h, k⟩
def ord_172_1 : Ord := (.op 0 [] (.op 1 [] (.op 2 [] (.op 3 [] (.op 4 [] (.op 5 [] (.op 6 [5, 4] (.op 9 [6, 5, 4] (.op 7 [9, 5, 4] (.op 8 [9] (.op 10 [] (.op 11 [] (.op 12 [] .nil)))))))))))))
def ord_173_2 : Ord := (.op 0 [] (.op 2 [0] (.op 3 [0] (.op 1 [3, 2] (.op 4 [] (.op 5 [] (.op 6 [] (.op 7 [] .nil))))))))
def ord_175_1 : Ord := (.op 0 [] (.op 1 [0] (.op 2 [0] (.op 3 [] (.op 4 [] .nil)))))
/-- A number of 128 bits, and one of w bits. -/
def wd (n : Nat) : T := .agg [.int .u64 ((n / 18446744073709551616 : Nat) : Int), .int .u64 ((n % 18446744073709551616 : Nat) : Int)]
def bt (w : Int) (n : Nat) : T := .agg [.int .i64 w, .int .u64 ((n / 18446744073709551616 : Nat) : Int), .int .u64 ((n % 18446744073709551616 : Nat) : Int)]
theorem u64_nat {n : Nat} (h : n < 18446744073709551616) : IntKind.u64.wrap (n : Int) = n := by rw [IntKind.wrap_u64]; omega
theorem ofInt_nat (w n : Nat) : BitVec.ofInt w (n : Int) = BitVec.ofNat w n := by
  apply BitVec.eq_of_toNat_eq
  rw [BitVec.toNat_ofInt, BitVec.toNat_ofNat]
  omega
theorem u64_and {a b : Nat} (ha : a < 18446744073709551616) (hb : b < 18446744073709551616) : bitsOp .and .u64 (a : Int) (b : Int) = ((a &&& b : Nat) : Int) := by
  have hor : a &&& b ≤ a := Nat.and_le_left
  show IntKind.u64.wrap ((BitVec.ofInt 64 (a : Int) &&& BitVec.ofInt 64 (b : Int)).toNat : Int) = _
  rw [ofInt_nat, ofInt_nat, BitVec.toNat_and, BitVec.toNat_ofNat, BitVec.toNat_ofNat, Nat.mod_eq_of_lt (by omega), Nat.mod_eq_of_lt (by omega)]
  exact u64_nat (by omega)
theorem agg2 {k k' : IntKind} {p p' q q' : Int} (h1 : p = p') (h2 : q = q') : some (T.agg [.int k p, .int k' q]) = some (T.agg [.int k p', .int k' q']) := by rw [h1, h2]
theorem and_runs (a b : Nat) (ha : a < 2 ^ 128) (hb : b < 2 ^ 128) : Runs Tryz.prog 191 [wd a, wd b] (.t (wd (a &&& b))) := by
  refine Runs.of_call ?_ rfl
  refine CallS.of_fn tab_ok reg_ok Tryz.func191 rfl rfl ?_
  have e1 : bitsOp .and .u64 ((a / 18446744073709551616 : Nat) : Int) ((b / 18446744073709551616 : Nat) : Int) = (((a &&& b) / 18446744073709551616 : Nat) : Int) := by
    rw [u64_and (by omega) (by omega)]
    exact congrArg _ (Nat.and_div_two_pow (n := 64)).symm
  have e2 : bitsOp .and .u64 ((a % 18446744073709551616 : Nat) : Int) ((b % 18446744073709551616 : Nat) : Int) = (((a &&& b) % 18446744073709551616 : Nat) : Int) := by
    rw [u64_and (by omega) (by omega)]
    exact congrArg _ (Nat.and_mod_two_pow (n := 64)).symm
  exact And.intro (agg2 e1 e2) rfl
/-- All bits below place w. -/
def maskN (w : Int) : Nat := 2 ^ (min w.toNat 128) - 1
theorem bshl1 {n : Nat} (h : n < 64) : IntKind.u64.wrap (IntKind.u64.wrap (1 * 2 ^ (min n 64)) - 1) = ((2 ^ n - 1 : Nat) : Int) := by
  have h1 : (2 : Nat) ^ n ≤ 2 ^ 63 := Nat.pow_le_pow_right (by omega) (by omega)
  have h2 : 0 < (2 : Nat) ^ n := Nat.pow_pos (by omega)
  have h3 : (2 : Int) ^ n = ((2 ^ n : Nat) : Int) := by simp
  rw [Nat.min_eq_left (by omega), Int.one_mul, h3]
  generalize 2 ^ n = p at h1 h2 ⊢
  rw [u64_nat (by omega), show (p : Int) - 1 = ((p - 1 : Nat) : Int) by omega, u64_nat (by omega)]
theorem mask_runs (w : Int) (hw : 0 ≤ w) (hw2 : w ≤ 9223372036854775807) : Runs Tryz.prog 189 [.int .i64 w] (.t (wd (maskN w))) := by
  refine Runs.of_call ?_ rfl
  refine CallS.of_fn tab_ok reg_ok Tryz.func189 rfl rfl ?_
  refine br_intro (fun h => ?_) (fun h => ?_)
  · have h := of_decide_eq_true h
    have : maskN w = 340282366920938463463374607431768211455 := by rw [maskN, Nat.min_eq_right (by omega)]
    rw [this]
    refine And.intro (agg2 ?_ ?_) rfl
    · decide
    · decide
  have h := of_decide_eq_false h
  refine br_intro (fun h2 => ?_) (fun h2 => ?_)
  · have h2 := of_decide_eq_true h2
    obtain ⟨n, rfl⟩ : ∃ n : Nat, w = (n : Int) + 64 := ⟨(w - 64).toNat, by omega⟩
    have hs : IntKind.i64.wrap ((n : Int) + 64 - 64) = n := by rw [i64_in _ (by omega)]; omega
    refine ck_intro (by rw [hs]; simp) ?_
    have e : maskN ((n : Int) + 64) = (2 ^ n - 1) * 18446744073709551616 + 18446744073709551615 := by
      rw [maskN, show ((n : Int) + 64).toNat = n + 64 by omega, Nat.min_eq_left (by omega), Nat.pow_add]
      have := Nat.pow_pos (n := n) (show 0 < 2 by omega)
      omega
    have e1 := bshl1 (n := n) (by omega)
    rw [e]
    refine And.intro (agg2 ?_ ?_) rfl
    · rw [hs]
      refine Eq.trans ?_ (e1.trans ?_)
      · rfl
      · generalize 2 ^ n - 1 = p; omega
    · generalize 2 ^ n - 1 = p; omega
  · have h2 := of_decide_eq_false h2
    obtain ⟨n, rfl⟩ := Int.eq_ofNat_of_zero_le hw
    have e : maskN (n : Int) = 2 ^ n - 1 := by rw [maskN, Int.toNat_natCast, Nat.min_eq_left (by omega)]
    have h1 : (2 : Nat) ^ n ≤ 2 ^ 63 := Nat.pow_le_pow_right (by omega) (by omega)
    have e1 := bshl1 (n := n) (by omega)
    rw [e]
    refine And.intro (agg2 ?_ ?_) rfl
    · rw [Nat.div_eq_of_lt (by omega)]; rfl
    · refine Eq.trans ?_ (e1.trans ?_)
      · rfl
      · generalize 2 ^ n = p at h1 ⊢; omega
theorem maskN_lt (w : Int) : maskN w < 2 ^ 128 := by
  have : 2 ^ (min w.toNat 128) ≤ 2 ^ 128 := Nat.pow_le_pow_right (by omega) (by omega)
  have := Nat.pow_pos (n := min w.toNat 128) (show 0 < 2 by omega)
  unfold maskN; omega
theorem and_mask (w : Int) (a : Nat) : a &&& maskN w = a % 2 ^ (min w.toNat 128) := Nat.and_two_pow_sub_one_eq_mod _ _
theorem to_runs (w : Int) (hw : 0 ≤ w) (hw2 : w ≤ 9223372036854775807) (a : Nat) (ha : a < 2 ^ 128) : Runs Tryz.prog 175 [.int .i64 w, wd a] (.t (bt w (a &&& maskN w))) := by
  refine Runs.of_call ?_ rfl
  refine CallS.of_fn tab_ok reg_ok Tryz.func175 rfl rfl ?_
  refine draw_intro ord_175_1 (by decide +kernel) ?_
  refine CallS.pure (mask_runs w hw hw2) rfl ?_
  repeat refine And.intro (fun j hj => by first | (cases hj; done) | exact LeX.append _ _ _ | exact LeX.refl _ _) ?_
  refine CallS.snap (and_runs a (maskN w) ha (maskN_lt w)) rfl rfl ?_
  repeat refine And.intro (fun j hj => by first | (cases hj; done) | exact LeX.append _ _ _ | exact LeX.refl _ _) ?_
  exact And.intro rfl rfl
theorem width_runs (w : Int) : Runs Tryz.prog 174 [.int .i64 w] (.t (.bool (decide (1 ≤ w ∧ w ≤ 128)))) := by
  refine Runs.of_call ?_ rfl
  refine CallS.of_fn tab_ok reg_ok Tryz.func174 rfl rfl ?_
  refine br_intro (fun h => ?_) (fun h => ?_)
  · have h := of_decide_eq_true h
    refine And.intro ?_ rfl
    simp only [show (1 ≤ w) by omega, true_and]
    rfl
  · have h := of_decide_eq_false h
    refine And.intro ?_ rfl
    simp only [show ¬ (1 ≤ w) by omega, false_and, decide_false]
    rfl
/-- The lowest w bits. -/
def makeT (w : Int) (n : Nat) : T := if 1 ≤ w ∧ w ≤ 128 then bt w (n &&& maskN w) else bt 0 0
theorem make_runs (w : Int) (n : Nat) (hn : n < 2 ^ 128) : Runs Tryz.prog 133 [.int .i64 w, .int .u64 ((n / 18446744073709551616 : Nat) : Int), .int .u64 ((n % 18446744073709551616 : Nat) : Int)] (.t (makeT w n)) := by
  refine Runs.of_call ?_ rfl
  refine CallS.of_fn tab_ok reg_ok Tryz.func133 rfl rfl ?_
  refine CallS.pure (width_runs w) rfl ?_
  refine br_intro (fun h => ?_) (fun h => ?_)
  · have h : ¬ (1 ≤ w ∧ w ≤ 128) := by intro hh; simp [hh] at h
    rw [makeT, if_neg h]
    exact And.intro rfl rfl
  · have h : 1 ≤ w ∧ w ≤ 128 := by simpa using h
    rw [makeT, if_pos h]
    refine CallS.snap (to_runs w (by omega) (by omega) n hn) rfl rfl ?_
    exact And.intro rfl rfl
theorem of_runs (w : Int) (n : Nat) : Runs Tryz.prog 186 [bt w n] (.t (wd n)) := by
  refine Runs.of_call ?_ rfl
  refine CallS.of_fn tab_ok reg_ok Tryz.func186 rfl rfl ?_
  exact And.intro rfl rfl
def isN (w : Int) (n : Nat) : Prop := (1 ≤ w ∧ w ≤ 128) ∧ n < 2 ^ w.toNat
instance (w : Int) (n : Nat) : Decidable (isN w n) := by unfold isN; infer_instance
theorem eq25 : Tryz.prog.stoodInHeld 214 = false ∧ Tryz.prog.eqGuardType Tryz.prog.depth 214 = false := ⟨by kernel_rfl, by kernel_rfl⟩
theorem normal_runs (w : Int) (n : Nat) (hn : n < 2 ^ 128) : Runs Tryz.prog 172 [bt w n] (.t (.bool (decide (isN w n)))) := by
  refine Runs.of_call ?_ rfl
  refine CallS.of_fn tab_ok reg_ok Tryz.func172 rfl rfl ?_
  refine draw_intro ord_172_1 (by decide +kernel) ?_
  refine CallS.pure (width_runs w) rfl ?_
  repeat refine And.intro (fun j hj => by first | (cases hj; done) | exact LeX.append _ _ _ | exact LeX.refl _ _) ?_
  refine br_intro (fun h => ?_) (fun h => ?_)
  · have h : 1 ≤ w ∧ w ≤ 128 := by simpa using h
    refine CallS.snap (of_runs w n) rfl rfl ?_
    repeat refine And.intro (fun j hj => by first | (cases hj; done) | exact LeX.append _ _ _ | exact LeX.refl _ _) ?_
    refine CallS.snap (to_runs w (by omega) (by omega) n hn) rfl rfl ?_
    repeat refine And.intro (fun j hj => by first | (cases hj; done) | exact LeX.append _ _ _ | exact LeX.refl _ _) ?_
    refine And.intro eq25 ?_
    refine And.intro (fun j hj => by first | (cases hj; done) | exact LeX.append _ _ _ | exact LeX.refl _ _) ?_
    refine And.intro (congrArg (fun b => some (T.bool b)) ?_) rfl
    have hm : n &&& maskN w = n % 2 ^ w.toNat := by rw [and_mask, Nat.min_eq_left (by omega)]
    rw [hm]
    by_cases hlt : n < 2 ^ w.toNat
    · rw [Nat.mod_eq_of_lt hlt, decide_eq_true (show isN w n from ⟨h, hlt⟩)]
      simp
    · rw [decide_eq_false (fun hh : isN w n => hlt hh.2)]
      have hne : n % 2 ^ w.toNat ≠ n := fun e => hlt (by have := Nat.mod_lt n (Nat.pow_pos (n := w.toNat) (show 0 < 2 by omega)); omega)
      generalize n % 2 ^ w.toNat = m at hne
      rw [Bool.eq_false_iff]
      intro hb
      simp at hb
      omega
  · have h : ¬ (1 ≤ w ∧ w ≤ 128) := by simpa using h
    have e : decide (isN w n) = false := decide_eq_false fun hh => h hh.1
    rw [e]
    repeat refine And.intro (fun j hj => by first | (cases hj; done) | exact LeX.append _ _ _ | exact LeX.refl _ _) ?_
    exact And.intro rfl rfl
theorem u64_or {a b : Nat} (ha : a < 18446744073709551616) (hb : b < 18446744073709551616) : bitsOp .or .u64 (a : Int) (b : Int) = ((a ||| b : Nat) : Int) := by
  have hor : a ||| b < 2 ^ 64 := Nat.or_lt_two_pow (by omega) (by omega)
  show IntKind.u64.wrap ((BitVec.ofInt 64 (a : Int) ||| BitVec.ofInt 64 (b : Int)).toNat : Int) = _
  rw [ofInt_nat, ofInt_nat, BitVec.toNat_or, BitVec.toNat_ofNat, BitVec.toNat_ofNat, Nat.mod_eq_of_lt (by omega), Nat.mod_eq_of_lt (by omega)]
  exact u64_nat (by omega)
theorem u64_not {a : Nat} (ha : a < 18446744073709551616) : bitsOp .xor .u64 18446744073709551615 (a : Int) = ((18446744073709551615 - a : Nat) : Int) := by
  show IntKind.u64.wrap ((BitVec.ofInt 64 (18446744073709551615 : Int) ^^^ BitVec.ofInt 64 (a : Int)).toNat : Int) = _
  rw [show BitVec.ofInt 64 (18446744073709551615 : Int) = BitVec.allOnes 64 from by decide, ofInt_nat, BitVec.allOnes_xor, BitVec.toNat_not, BitVec.toNat_ofNat, Nat.mod_eq_of_lt (by omega)]
  rw [u64_nat (by omega)]
theorem or_runs (a b : Nat) (ha : a < 2 ^ 128) (hb : b < 2 ^ 128) : Runs Tryz.prog 188 [wd a, wd b] (.t (wd (a ||| b))) := by
  refine Runs.of_call ?_ rfl
  refine CallS.of_fn tab_ok reg_ok Tryz.func188 rfl rfl ?_
  have e1 : bitsOp .or .u64 ((a / 18446744073709551616 : Nat) : Int) ((b / 18446744073709551616 : Nat) : Int) = (((a ||| b) / 18446744073709551616 : Nat) : Int) := by
    rw [u64_or (by omega) (by omega)]
    exact congrArg _ (Nat.or_div_two_pow (n := 64)).symm
  have e2 : bitsOp .or .u64 ((a % 18446744073709551616 : Nat) : Int) ((b % 18446744073709551616 : Nat) : Int) = (((a ||| b) % 18446744073709551616 : Nat) : Int) := by
    rw [u64_or (by omega) (by omega)]
    exact congrArg _ (Nat.or_mod_two_pow (n := 64)).symm
  exact And.intro (agg2 e1 e2) rfl
theorem not_runs (a : Nat) (ha : a < 2 ^ 128) : Runs Tryz.prog 190 [wd a] (.t (wd (340282366920938463463374607431768211455 - a))) := by
  refine Runs.of_call ?_ rfl
  refine CallS.of_fn tab_ok reg_ok Tryz.func190 rfl rfl ?_
  have e1 : bitsOp .xor .u64 18446744073709551615 ((a / 18446744073709551616 : Nat) : Int) = (((340282366920938463463374607431768211455 - a) / 18446744073709551616 : Nat) : Int) := by
    rw [u64_not (by omega)]; omega
  have e2 : bitsOp .xor .u64 18446744073709551615 ((a % 18446744073709551616 : Nat) : Int) = (((340282366920938463463374607431768211455 - a) % 18446744073709551616 : Nat) : Int) := by
    rw [u64_not (by omega)]; omega
  exact And.intro (agg2 e1 e2) rfl
theorem wrap_u64_nat (n : Nat) : IntKind.u64.wrap (n : Int) = ((n % 18446744073709551616 : Nat) : Int) := by rw [IntKind.wrap_u64]; omega
theorem tb_mul (x n i : Nat) : (x * 2 ^ n).testBit i = (decide (n ≤ i) && x.testBit (i - n)) := by
  rw [← Nat.shiftLeft_eq, Nat.testBit_shiftLeft]
theorem tb_div (x n i : Nat) : (x / 2 ^ n).testBit i = x.testBit (n + i) := by
  rw [← Nat.shiftRight_eq_div_pow, Nat.testBit_shiftRight]
theorem down_lo64 (a n : Nat) (h : n < 64) : ((a % 2 ^ 64) / 2 ^ n) ||| ((a / 2 ^ 64) * 2 ^ (64 - n) % 2 ^ 64) = (a / 2 ^ n) % 2 ^ 64 := by
  refine Nat.eq_of_testBit_eq fun i => ?_
  simp only [Nat.testBit_or, Nat.testBit_mod_two_pow, tb_mul, tb_div]
  by_cases h1 : i < 64
  · by_cases h2 : n + i < 64
    · simp [h1, h2, show ¬ 64 - n ≤ i by omega]
    · simp [h1, h2, show 64 - n ≤ i by omega, show 64 + (i - (64 - n)) = n + i by omega]
  · simp [h1, show ¬ n + i < 64 by omega]
theorem down_hi64 (a n : Nat) : (a / 2 ^ 64) / 2 ^ n = (a / 2 ^ n) / 2 ^ 64 := by
  rw [Nat.div_div_eq_div_mul, Nat.div_div_eq_div_mul, Nat.mul_comm]
theorem down_lo128 (a n : Nat) (ha : a < 2 ^ 128) (h : 64 ≤ n) : (a / 2 ^ 64) / 2 ^ (min (n - 64) 64) = (a / 2 ^ n) % 2 ^ 64 := by
  refine Nat.eq_of_testBit_eq fun i => ?_
  simp only [Nat.testBit_or, Nat.testBit_mod_two_pow, tb_mul, tb_div]
  have big : ∀ k, 128 ≤ k → a.testBit k = false := fun k hk => Nat.testBit_lt_two_pow (Nat.lt_of_lt_of_le ha (Nat.pow_le_pow_right (by omega) hk))
  by_cases h1 : n - 64 ≤ 64
  · rw [Nat.min_eq_left h1, show 64 + (n - 64 + i) = n + i by omega]
    by_cases h2 : i < 64
    · simp [h2]
    · simp [h2, big (n + i) (by omega)]
  · rw [Nat.min_eq_right (by omega), big (64 + (64 + i)) (by omega), big (n + i) (by omega)]
    simp
theorem down_hi128 (a n : Nat) (ha : a < 2 ^ 128) (h : 64 ≤ n) : (a / 2 ^ n) / 2 ^ 64 = 0 := by
  rw [Nat.div_div_eq_div_mul, ← Nat.pow_add]
  exact Nat.div_eq_of_lt (Nat.lt_of_lt_of_le ha (Nat.pow_le_pow_right (by omega) (by omega)))
/-- Shifts of numbers of 64 bits, as the model reckons them. -/
theorem shl_u64 (x n : Nat) : IntKind.u64.wrap ((x : Int) * 2 ^ (min (n : Int).toNat IntKind.u64.bits)) = ((x * 2 ^ (min n 64) % 18446744073709551616 : Nat) : Int) := by
  rw [show IntKind.u64.bits = 64 from rfl, Int.toNat_natCast, show ((x : Int) * 2 ^ (min n 64)) = ((x * 2 ^ (min n 64) : Nat) : Int) by simp]
  exact wrap_u64_nat _
theorem shr_u64 (x n : Nat) : (x : Int).fdiv (2 ^ (min (n : Int).toNat IntKind.u64.bits)) = ((x / 2 ^ (min n 64) : Nat) : Int) := by
  rw [show IntKind.u64.bits = 64 from rfl, Int.toNat_natCast, Int.fdiv_eq_ediv_of_nonneg _ (by exact Int.le_of_lt (Int.pow_pos (by omega)))]
  simp
theorem down_runs (a n : Nat) (ha : a < 2 ^ 128) (hn : n < 18446744073709551616) : Runs Tryz.prog 196 [wd a, .int .u64 (n : Int)] (.t (wd (a / 2 ^ n))) := by
  refine Runs.of_call ?_ rfl
  refine CallS.of_fn tab_ok reg_ok Tryz.func196 rfl rfl ?_
  refine br_intro (fun h => ?_) (fun h => ?_)
  · have h : 64 ≤ n := by have := of_decide_eq_true h; omega
    have e : IntKind.u64.wrap ((n : Int) - 64) = ((n - 64 : Nat) : Int) := by rw [IntKind.wrap_u64]; omega
    refine ck_intro (by rw [e]; simp) ?_
    refine And.intro (agg2 ?_ ?_) rfl
    · exact congrArg _ (down_hi128 a n ha h).symm
    · rw [e, shr_u64]; exact congrArg _ (down_lo128 a n ha h)
  · have h : n < 64 := by have := of_decide_eq_false h; omega
    have e : IntKind.u64.wrap (64 - (n : Int)) = ((64 - n : Nat) : Int) := by rw [IntKind.wrap_u64]; omega
    refine ck_intro (by rw [e]; simp) ?_
    refine And.intro (agg2 ?_ ?_) rfl
    · rw [shr_u64, Nat.min_eq_left (by omega)]; exact congrArg _ (down_hi64 a n)
    · rw [e, shr_u64, shl_u64, Nat.min_eq_left (by omega), Nat.min_eq_left (by omega)]
      rw [u64_or (Nat.lt_of_le_of_lt (Nat.div_le_self _ _) (Nat.mod_lt _ (by omega))) (Nat.mod_lt _ (by omega))]
      exact congrArg _ (down_lo64 a n h)
theorem and_one (x : Nat) : x &&& 1 = x % 2 := Nat.and_two_pow_sub_one_eq_mod x 1
theorem or_add {x y n : Nat} (hy : y < 2 ^ n) : (x * 2 ^ n) ||| y = x * 2 ^ n + y := by
  rw [Nat.mul_comm x, Nat.two_pow_add_eq_or_of_lt hy]
def extT (w : Int) (n : Nat) (hi lo : Int) : T := if isN w n ∧ 0 ≤ lo ∧ lo ≤ hi ∧ hi < w then bt (hi - lo + 1) (n / 2 ^ lo.toNat &&& maskN (hi - lo + 1)) else bt 0 0
theorem extract_runs (w : Int) (n : Nat) (hi lo : Int) (hn : n < 2 ^ 128) : Runs Tryz.prog 187 [bt w n, .int .i64 hi, .int .i64 lo] (.t (extT w n hi lo)) := by
  refine Runs.of_call ?_ rfl
  refine CallS.of_fn tab_ok reg_ok Tryz.func187 rfl rfl ?_
  refine CallS.snap (normal_runs w n hn) rfl rfl ?_
  have bad : ¬ (isN w n ∧ 0 ≤ lo ∧ lo ≤ hi ∧ hi < w) → extT w n hi lo = bt 0 0 := fun h => by rw [extT, if_neg h]
  refine br_intro (fun h => ?_) (fun h => ?_)
  · have h : ¬ isN w n := by simpa using h
    rw [bad (fun hh => h hh.1)]
    exact And.intro rfl rfl
  have h : isN w n := by simpa using h
  refine br_intro (fun h2 => ?_) (fun h2 => ?_)
  · have h2 := of_decide_eq_true h2
    rw [bad (fun hh => by omega)]
    exact And.intro rfl rfl
  have h2 := of_decide_eq_false h2
  refine br_intro (fun h3 => ?_) (fun h3 => ?_)
  · have h3 := of_decide_eq_true h3
    rw [bad (fun hh => by omega)]
    exact And.intro rfl rfl
  have h3 := of_decide_eq_false h3
  refine br_intro (fun h4 => ?_) (fun h4 => ?_)
  · have h4 := of_decide_eq_true h4
    rw [bad (fun hh => by omega)]
    exact And.intro rfl rfl
  have h4 := of_decide_eq_false h4
  have hw := h.1
  have e1 : IntKind.i64.wrap (IntKind.i64.wrap (hi - lo) + 1) = hi - lo + 1 := by rw [i64_in (hi - lo) (by omega), i64_in _ (by omega)]
  obtain ⟨k, rfl⟩ := Int.eq_ofNat_of_zero_le (show 0 ≤ lo by omega)
  have hk : k < 128 := by omega
  have e2 : IntKind.u64.wrap (k : Int) = (k : Int) := u64_nat (by omega)
  rw [extT, if_pos ⟨h, by omega, by omega, by omega⟩, Int.toNat_natCast]
  refine CallS.snap (of_runs w n) rfl rfl ?_
  have hd := down_runs n k hn (by omega)
  rw [← e2] at hd
  refine CallS.snap hd rfl rfl ?_
  have ht := to_runs (hi - (k : Int) + 1) (by omega) (by omega) (n / 2 ^ k) (Nat.lt_of_le_of_lt (Nat.div_le_self _ _) hn)
  rw [← e1] at ht ⊢
  refine CallS.snap ht rfl rfl ?_
  exact And.intro rfl rfl
def all1 : Nat := 340282366920938463463374607431768211455
theorem all1_lt (n : Nat) : all1 - n < 2 ^ 128 := by unfold all1; omega
theorem or_lt {a b : Nat} (ha : a < 2 ^ 128) (hb : b < 2 ^ 128) : a ||| b < 2 ^ 128 := Nat.or_lt_two_pow ha hb
/-- The value with its sign through all 128 places. -/
def sgn (w : Int) (n : Nat) : Nat := if n / 2 ^ (w - 1).toNat % 2 = 1 then n ||| (all1 - maskN w) else n
theorem sgn_lt {w : Int} {n : Nat} (hn : n < 2 ^ 128) : sgn w n < 2 ^ 128 := by
  unfold sgn; split
  · exact or_lt hn (all1_lt _)
  · exact hn
theorem isN_lt {w : Int} {n : Nat} (h : isN w n) : n < 2 ^ 128 := Nat.lt_of_lt_of_le h.2 (Nat.pow_le_pow_right (by omega) (by have := h.1; omega))
theorem maskN_one : maskN 1 = 1 := rfl
theorem signed_runs (w : Int) (n : Nat) (h : isN w n) : Runs Tryz.prog 173 [bt w n] (.t (wd (sgn w n))) := by
  have hn := isN_lt h
  have hw := h.1
  refine Runs.of_call ?_ rfl
  refine CallS.of_fn tab_ok reg_ok Tryz.func173 rfl rfl ?_
  have he := extract_runs w n (w - 1) (w - 1) hn
  have e1 : IntKind.i64.wrap (w - 1) = w - 1 := i64_in _ (by omega)
  rw [extT, if_pos ⟨h, by omega, by omega, by omega⟩, show w - 1 - (w - 1) + 1 = 1 by omega, maskN_one, and_one] at he
  rw [← e1] at he
  have hfl : Flat (.t (bt 1 (n / 2 ^ (IntKind.i64.wrap (w - 1)).toNat % 2))) := rfl
  refine CallS.snap he rfl hfl ?_
  refine br_intro (fun h2 => ?_) (fun h2 => ?_)
  · have h2 := eq_of_beq h2
    rw [e1] at h2
    have h2 : n / 2 ^ (w - 1).toNat % 2 = 1 := by omega
    rw [sgn, if_pos h2]
    refine draw_intro ord_173_2 (by decide +kernel) ?_
    refine CallS.snap (of_runs w n) rfl rfl ?_
    repeat refine And.intro (fun j hj => by first | (cases hj; done) | exact LeX.append _ _ _ | exact LeX.refl _ _) ?_
    refine CallS.snap (mask_runs w (by omega) (by omega)) rfl rfl ?_
    repeat refine And.intro (fun j hj => by first | (cases hj; done) | exact LeX.append _ _ _ | exact LeX.refl _ _) ?_
    refine CallS.snap (not_runs _ (maskN_lt w)) rfl rfl ?_
    repeat refine And.intro (fun j hj => by first | (cases hj; done) | exact LeX.append _ _ _ | exact LeX.refl _ _) ?_
    refine CallS.snap (or_runs n (all1 - maskN w) hn (all1_lt _)) rfl rfl ?_
    repeat refine And.intro (fun j hj => by first | (cases hj; done) | exact LeX.append _ _ _ | exact LeX.refl _ _) ?_
    exact And.intro rfl rfl
  · have h2 := ne_of_beq_false h2
    rw [e1] at h2
    have h2 : ¬ n / 2 ^ (w - 1).toNat % 2 = 1 := by omega
    rw [sgn, if_neg h2]
    refine CallS.snap (of_runs w n) rfl rfl ?_
    repeat refine And.intro (fun j hj => by first | (cases hj; done) | exact LeX.append _ _ _ | exact LeX.refl _ _) ?_
    exact And.intro rfl rfl
/-- The highest bit. -/
theorem top_iff {w : Int} {n : Nat} (h : isN w n) : n / 2 ^ (w - 1).toNat % 2 = 1 ↔ 2 ^ (w - 1).toNat ≤ n := by
  have hw := h.1
  have e : (2 : Nat) ^ w.toNat = 2 * 2 ^ (w - 1).toNat := by
    rw [show w.toNat = (w - 1).toNat + 1 by omega, Nat.pow_succ, Nat.mul_comm]
  have hlt := h.2
  rw [e] at hlt
  have hp : 0 < 2 ^ (w - 1).toNat := Nat.pow_pos (by omega)
  have hd : n / 2 ^ (w - 1).toNat < 2 := by rw [Nat.div_lt_iff_lt_mul hp]; exact hlt
  constructor
  · intro h1
    have h3 : 1 ≤ n / 2 ^ (w - 1).toNat := by
      generalize n / 2 ^ (w - 1).toNat = d at h1
      clear hlt e hp hd
      omega
    rw [Nat.le_div_iff_mul_le hp] at h3
    omega
  · intro h1
    have h3 : 1 ≤ n / 2 ^ (w - 1).toNat := by rw [Nat.le_div_iff_mul_le hp]; omega
    generalize n / 2 ^ (w - 1).toNat = d at *
    clear hlt e h1 hp
    omega
theorem maskN_eq {w : Int} (h : 0 ≤ w) (h2 : w ≤ 128) : maskN w = 2 ^ w.toNat - 1 := by rw [maskN, Nat.min_eq_left (by omega)]
theorem sgn_eq {w : Int} {n : Nat} (h : isN w n) : sgn w n = if 2 ^ (w - 1).toNat ≤ n then n + (2 ^ 128 - 2 ^ w.toNat) else n := by
  have hw := h.1
  unfold sgn
  by_cases hc : 2 ^ (w - 1).toNat ≤ n
  · rw [if_pos hc, if_pos ((top_iff h).2 hc), maskN_eq (by omega) (by omega)]
    have e1 : all1 - (2 ^ w.toNat - 1) = (2 ^ (128 - w.toNat) - 1) * 2 ^ w.toNat := by
      rw [Nat.sub_mul, ← Nat.pow_add, show 128 - w.toNat + w.toNat = 128 by omega]
      have : 0 < 2 ^ w.toNat := Nat.pow_pos (by omega)
      have : 2 ^ w.toNat ≤ 2 ^ 128 := Nat.pow_le_pow_right (by omega) (by omega)
      unfold all1; omega
    have e2 : 2 ^ 128 - 2 ^ w.toNat = (2 ^ (128 - w.toNat) - 1) * 2 ^ w.toNat := by
      rw [Nat.sub_mul, ← Nat.pow_add, show 128 - w.toNat + w.toNat = 128 by omega, Nat.one_mul]
    rw [e1, e2, Nat.or_comm, or_add h.2]
    omega
  · rw [if_neg hc, if_neg (fun hh => hc ((top_iff h).1 hh))]
/-- The signed value. -/
def sval (w : Int) (n : Nat) : Int := if 2 ^ (w - 1).toNat ≤ n then (n : Int) - 2 ^ w.toNat else n
theorem pow_half {w : Int} (h : 1 ≤ w) : (2 : Nat) ^ w.toNat = 2 * 2 ^ (w - 1).toNat := by
  rw [show w.toNat = (w - 1).toNat + 1 by omega, Nat.pow_succ, Nat.mul_comm]
theorem sval_sgn {w : Int} {n : Nat} (h : isN w n) : (sgn w n : Int) = sval w n % 340282366920938463463374607431768211456 ∧ -170141183460469231731687303715884105728 ≤ sval w n ∧ sval w n < 170141183460469231731687303715884105728 := by
  have hw := h.1
  have h1 := pow_half hw.1
  have h2 : (2 : Nat) ^ w.toNat ≤ 2 ^ 128 := Nat.pow_le_pow_right (by omega) (by omega)
  have hlt := h.2
  have e : ((2 : Int) ^ w.toNat) = ((2 ^ w.toNat : Nat) : Int) := by simp
  rw [sgn_eq h, sval, e]
  generalize 2 ^ w.toNat = p at *
  generalize 2 ^ (w - 1).toNat = q at *
  split <;> refine ⟨by omega, by omega, by omega⟩
def intR (w : Int) (n : Nat) : AV :=
  if isN w n ∧ -9223372036854775808 ≤ sval w n ∧ sval w n < 9223372036854775808 then .tup [.t (.int .i64 (sval w n)), .t (.bool true)] else .tup [.t (.int .i64 0), .t (.bool false)]
theorem int_runs (w : Int) (n : Nat) (hn : n < 2 ^ 128) : Runs Tryz.prog 132 [bt w n] (intR w n) := by
  refine Runs.of_call ?_ (by unfold intR; split <;> rfl)
  refine CallS.of_fn tab_ok reg_ok Tryz.func132 rfl rfl ?_
  refine CallS.snap (normal_runs w n hn) rfl rfl ?_
  refine br_intro (fun h => ?_) (fun h => ?_)
  · have h : ¬ isN w n := by simpa using h
    rw [intR, if_neg (fun hh => h hh.1)]
    exact And.intro ⟨rfl, rfl, trivial⟩ rfl
  have h : isN w n := by simpa using h
  refine CallS.snap (signed_runs w n h) rfl rfl ?_
  obtain ⟨h1, h2, h3⟩ := sval_sgn h
  have hs := sgn_lt (w := w) hn
  have e1 : IntKind.i64.wrap ((sgn w n % 18446744073709551616 : Nat) : Int) = (sval w n + 9223372036854775808) % 18446744073709551616 - 9223372036854775808 := by
    rw [IntKind.wrap_i64]; omega
  have e2 : ((sval w n + 9223372036854775808) % 18446744073709551616 - 9223372036854775808).fdiv (2 ^ (min (63 : Int).toNat IntKind.i64.bits)) = if (sval w n + 9223372036854775808) % 18446744073709551616 < 9223372036854775808 then -1 else 0 := by
    show ((sval w n + 9223372036854775808) % 18446744073709551616 - 9223372036854775808).fdiv 9223372036854775808 = _
    rw [Int.fdiv_eq_ediv_of_nonneg _ (by decide)]
    split <;> omega
  refine br_intro (fun h4 => ?_) (fun h4 => ?_)
  · have h4 := eq_of_beq h4
    rw [e1, e2, IntKind.wrap_u64] at h4
    have : -9223372036854775808 ≤ sval w n ∧ sval w n < 9223372036854775808 := by
      split at h4 <;> omega
    rw [intR, if_pos ⟨h, this⟩]
    refine And.intro ⟨?_, rfl, trivial⟩ rfl
    exact congrArg (fun x => some (T.int .i64 x)) (by rw [e1]; omega)
  · have h4 := ne_of_beq_false h4
    rw [e1, e2, IntKind.wrap_u64] at h4
    rw [intR, if_neg (fun hh => by obtain ⟨_, k1, k2⟩ := hh; split at h4 <;> omega)]
    exact And.intro ⟨rfl, rfl, trivial⟩ rfl
end Go.Proofs.YtnjmeadmkbkikaaGreatDoor
