/-
  Numbers of 128 bits: the functions of 'bvec' as the walk shows them.
-/
import Derived.Test.YtkjhkcpgkccocaaDraw5
import Derived.Test.YtkjhkcpgkccocaaProg
import Derived.Test.YtkjhkcpgkccocaaChecked
import Derived.IntWalk
import Derived.KernelRfl
namespace Go.Proofs.Ytkjhkcpgkccocaa
open Go.IntWalk
set_option maxRecDepth 100000
set_option linter.unusedVariables false
set_option linter.unusedSimpArgs false
noncomputable def tab : Tab := mkTab Try.prog
theorem tab_ok : TabOK Try.prog tab := mkTab_ok _
theorem mixed : Try.prog.follows .mixedOrders = true := Try.checked.mixed
noncomputable def reg : RegP := regD Try.prog tab
theorem reg_ok : RegOK Try.prog tab reg := regD_ok tab_ok mixed
theorem draw_intro {ops : Array Oper} {s : St} {K : St → Prop} (σ : List (Nat × Bool)) (h : drawOK ops (masks ops) σ [] = true) (k : xdr tab (CallS Try.prog) ops [] σ s K) : reg ops s K := ⟨[], σ, h, k⟩
theorem draw_introX {ops : Array Oper} {s : St} {K : St → Prop} (D : List Nat) (σ : List (Nat × Bool)) (h : drawOK ops (masks ops) σ [] = true) (k : xdr tab (CallS Try.prog) ops D σ s K) : reg ops s K := ⟨D, σ, h, k⟩

/-- A number of 128 bits, and one of w bits. -/
def wd (n : Nat) : T := .agg [.int .u64 ((n / 18446744073709551616 : Nat) : Int), .int .u64 ((n % 18446744073709551616 : Nat) : Int)]
def bt (w : Int) (n : Nat) : T := .agg [.int .i64 w, .int .u64 ((n / 18446744073709551616 : Nat) : Int), .int .u64 ((n % 18446744073709551616 : Nat) : Int)]

theorem u64_nat {n : Nat} (h : n < 18446744073709551616) : IntKind.u64.wrap (n : Int) = n := by rw [IntKind.wrap_u64]; omega
theorem ofInt_nat (w n : Nat) : BitVec.ofInt w (n : Int) = BitVec.ofNat w n := by
  apply BitVec.eq_of_toNat_eq
  rw [BitVec.toNat_ofInt, BitVec.toNat_ofNat]
  omega
theorem u64_and {a b : Nat} (ha : a < 18446744073709551616) (hb : b < 18446744073709551616) : bitsOp .and .u64 (a : Int) (b : Int) = ((a &&& b : Nat) : Int) := by
  have hor : a &&& b ≤ a := Nat.and_le_left
  show IntKind.u64.wrap ((BitVec.ofInt 64 (a : Int) &&& BitVec.ofInt 64 (b : Int)).toNat : Int) = _
  rw [ofInt_nat, ofInt_nat, BitVec.toNat_and, BitVec.toNat_ofNat, BitVec.toNat_ofNat, Nat.mod_eq_of_lt (by omega), Nat.mod_eq_of_lt (by omega)]
  exact u64_nat (by omega)

theorem agg2 {k k' : IntKind} {p p' q q' : Int} (h1 : p = p') (h2 : q = q') : some (T.agg [.int k p, .int k' q]) = some (T.agg [.int k p', .int k' q']) := by rw [h1, h2]
theorem agg3 {k k' k'' : IntKind} {o o' p p' q q' : Int} (h0 : o = o') (h1 : p = p') (h2 : q = q') : some (T.agg [.int k o, .int k' p, .int k'' q]) = some (T.agg [.int k o', .int k' p', .int k'' q']) := by rw [h0, h1, h2]
theorem and_runs (a b : Nat) (ha : a < 2 ^ 128) (hb : b < 2 ^ 128) : Runs Try.prog 47 [wd a, wd b] (.t (wd (a &&& b))) := by
  refine Runs.of_call ?_ rfl
  refine CallS.of_fn tab_ok reg_ok Try.func47 rfl rfl ?_
  have e1 : bitsOp .and .u64 ((a / 18446744073709551616 : Nat) : Int) ((b / 18446744073709551616 : Nat) : Int) = (((a &&& b) / 18446744073709551616 : Nat) : Int) := by
    rw [u64_and (by omega) (by omega)]
    exact congrArg _ (Nat.and_div_two_pow (n := 64)).symm
  have e2 : bitsOp .and .u64 ((a % 18446744073709551616 : Nat) : Int) ((b % 18446744073709551616 : Nat) : Int) = (((a &&& b) % 18446744073709551616 : Nat) : Int) := by
    rw [u64_and (by omega) (by omega)]
    exact congrArg _ (Nat.and_mod_two_pow (n := 64)).symm
  exact And.intro (agg2 e1 e2) rfl

/-- All bits below place w. -/
def maskN (w : Int) : Nat := 2 ^ (min w.toNat 128) - 1

theorem shl1 {n : Nat} (h : n < 64) : IntKind.u64.wrap (IntKind.u64.wrap (1 * 2 ^ (min n 64)) - 1) = ((2 ^ n - 1 : Nat) : Int) := by
  have h1 : (2 : Nat) ^ n ≤ 2 ^ 63 := Nat.pow_le_pow_right (by omega) (by omega)
  have h2 : 0 < (2 : Nat) ^ n := Nat.pow_pos (by omega)
  have h3 : (2 : Int) ^ n = ((2 ^ n : Nat) : Int) := by simp
  rw [Nat.min_eq_left (by omega), Int.one_mul, h3]
  generalize 2 ^ n = p at h1 h2 ⊢
  rw [u64_nat (by omega), show (p : Int) - 1 = ((p - 1 : Nat) : Int) by omega, u64_nat (by omega)]

theorem mask_runs (w : Int) (hw : 0 ≤ w) (hw2 : w ≤ 9223372036854775807) : Runs Try.prog 66 [.int .i64 w] (.t (wd (maskN w))) := by
  refine Runs.of_call ?_ rfl
  refine CallS.of_fn tab_ok reg_ok Try.func66 rfl rfl ?_
  refine br_intro (fun h => ?_) (fun h => ?_)
  · have h := of_decide_eq_true h
    have : maskN w = 340282366920938463463374607431768211455 := by rw [maskN, Nat.min_eq_right (by omega)]
    rw [this]
    refine And.intro (agg2 ?_ ?_) rfl
    · decide
    · decide
  have h := of_decide_eq_false h
  refine br_intro (fun h2 => ?_) (fun h2 => ?_)
  · have h2 := of_decide_eq_true h2
    obtain ⟨n, rfl⟩ : ∃ n : Nat, w = (n : Int) + 64 := ⟨(w - 64).toNat, by omega⟩
    have hs : IntKind.i64.wrap ((n : Int) + 64 - 64) = n := by rw [i64_in _ (by omega)]; omega
    refine ck_intro (by rw [hs]; simp) ?_
    have e : maskN ((n : Int) + 64) = (2 ^ n - 1) * 18446744073709551616 + 18446744073709551615 := by
      rw [maskN, show ((n : Int) + 64).toNat = n + 64 by omega, Nat.min_eq_left (by omega), Nat.pow_add]
      have := Nat.pow_pos (n := n) (show 0 < 2 by omega)
      omega
    have e1 := shl1 (n := n) (by omega)
    rw [e]
    refine And.intro (agg2 ?_ ?_) rfl
    · rw [hs]
      refine Eq.trans ?_ (e1.trans ?_)
      · rfl
      · generalize 2 ^ n - 1 = p; omega
    · generalize 2 ^ n - 1 = p; omega
  · have h2 := of_decide_eq_false h2
    obtain ⟨n, rfl⟩ := Int.eq_ofNat_of_zero_le hw
    have e : maskN (n : Int) = 2 ^ n - 1 := by rw [maskN, Int.toNat_natCast, Nat.min_eq_left (by omega)]
    have h1 : (2 : Nat) ^ n ≤ 2 ^ 63 := Nat.pow_le_pow_right (by omega) (by omega)
    have e1 := shl1 (n := n) (by omega)
    rw [e]
    refine And.intro (agg2 ?_ ?_) rfl
    · rw [Nat.div_eq_of_lt (by omega)]; rfl
    · refine Eq.trans ?_ (e1.trans ?_)
      · rfl
      · generalize 2 ^ n = p at h1 ⊢; omega

theorem maskN_lt (w : Int) : maskN w < 2 ^ 128 := by
  have : 2 ^ (min w.toNat 128) ≤ 2 ^ 128 := Nat.pow_le_pow_right (by omega) (by omega)
  have := Nat.pow_pos (n := min w.toNat 128) (show 0 < 2 by omega)
  unfold maskN; omega

theorem and_mask (w : Int) (a : Nat) : a &&& maskN w = a % 2 ^ (min w.toNat 128) := Nat.and_two_pow_sub_one_eq_mod _ _

theorem to_runs (w : Int) (hw : 0 ≤ w) (hw2 : w ≤ 9223372036854775807) (a : Nat) (ha : a < 2 ^ 128) : Runs Try.prog 41 [.int .i64 w, wd a] (.t (bt w (a &&& maskN w))) := by
  refine Runs.of_call ?_ rfl
  refine CallS.of_fn tab_ok reg_ok Try.func41 rfl rfl ?_
  refine draw_intro [(0, false), (1, false), (2, false), (3, true), (4, true)] (by decide +kernel) ?_
  refine CallS.pure (mask_runs w hw hw2) rfl ?_
  refine And.intro (LeX.refl _ _) ?_
  refine CallS.snap (and_runs a (maskN w) ha (maskN_lt w)) rfl rfl ?_
  exact And.intro rfl rfl
theorem width_runs (w : Int) : Runs Try.prog 64 [.int .i64 w] (.t (.bool (decide (1 ≤ w ∧ w ≤ 128)))) := by
  refine Runs.of_call ?_ rfl
  refine CallS.of_fn tab_ok reg_ok Try.func64 rfl rfl ?_
  refine br_intro (fun h => ?_) (fun h => ?_)
  · have h := of_decide_eq_true h
    refine And.intro ?_ rfl
    simp only [show (1 ≤ w) by omega, true_and]
    rfl
  · have h := of_decide_eq_false h
    refine And.intro ?_ rfl
    simp only [show ¬ (1 ≤ w) by omega, false_and, decide_false]
    rfl

/-- The lowest w bits. -/
def makeT (w : Int) (n : Nat) : T := if 1 ≤ w ∧ w ≤ 128 then bt w (n &&& maskN w) else bt 0 0

theorem makeT_flat (w : Int) (n : Nat) : Flat (.t (makeT w n)) := by unfold makeT; split <;> rfl

theorem make_runs (w : Int) (n : Nat) (hn : n < 2 ^ 128) : Runs Try.prog 27 [.int .i64 w, .int .u64 ((n / 18446744073709551616 : Nat) : Int), .int .u64 ((n % 18446744073709551616 : Nat) : Int)] (.t (makeT w n)) := by
  refine Runs.of_call ?_ rfl
  refine CallS.of_fn tab_ok reg_ok Try.func27 rfl rfl ?_
  refine CallS.pure (width_runs w) rfl ?_
  refine br_intro (fun h => ?_) (fun h => ?_)
  · have h : ¬ (1 ≤ w ∧ w ≤ 128) := by intro hh; simp [hh] at h
    rw [makeT, if_neg h]
    exact And.intro rfl rfl
  · have h : 1 ≤ w ∧ w ≤ 128 := by simpa using h
    rw [makeT, if_pos h]
    refine CallS.snap (to_runs w (by omega) (by omega) n hn) rfl rfl ?_
    exact And.intro rfl rfl

/-- A number as one of 128 bits. -/
def of128 (n : Int) : Nat := (n % 340282366920938463463374607431768211456).toNat

theorem of128_lt (n : Int) : of128 n < 2 ^ 128 := by unfold of128; omega

theorem fromInt_runs (w n : Int) (hn : -9223372036854775808 ≤ n ∧ n ≤ 9223372036854775807) : Runs Try.prog 17 [.int .i64 w, .int .i64 n] (.t (makeT w (of128 n))) := by
  refine Runs.of_call ?_ rfl
  refine CallS.of_fn tab_ok reg_ok Try.func17 rfl rfl ?_
  have hm := make_runs w (of128 n) (of128_lt n)
  have e1 : ((of128 n / 18446744073709551616 : Nat) : Int) = IntKind.u64.wrap (n.fdiv (2 ^ (min (63 : Int).toNat IntKind.i64.bits))) := by
    show _ = IntKind.u64.wrap (n.fdiv 9223372036854775808)
    rw [IntKind.wrap_u64, Int.fdiv_eq_ediv_of_nonneg _ (by decide)]
    unfold of128; omega
  have e2 : ((of128 n % 18446744073709551616 : Nat) : Int) = IntKind.u64.wrap n := by
    rw [IntKind.wrap_u64]; unfold of128; omega
  rw [e1, e2] at hm
  refine CallS.pure hm rfl ?_
  unfold makeT
  split
  · exact And.intro rfl rfl
  · exact And.intro rfl rfl

theorem of_runs (w : Int) (n : Nat) : Runs Try.prog 39 [bt w n] (.t (wd n)) := by
  refine Runs.of_call ?_ rfl
  refine CallS.of_fn tab_ok reg_ok Try.func39 rfl rfl ?_
  exact And.intro rfl rfl

def isN (w : Int) (n : Nat) : Prop := (1 ≤ w ∧ w ≤ 128) ∧ n < 2 ^ w.toNat
instance (w : Int) (n : Nat) : Decidable (isN w n) := by unfold isN; infer_instance

theorem eq25 : Try.prog.stoodInHeld 25 = false ∧ Try.prog.eqGuardType Try.prog.depth 25 = false := ⟨by kernel_rfl, by kernel_rfl⟩

theorem normal_runs (w : Int) (n : Nat) (hn : n < 2 ^ 128) : Runs Try.prog 16 [bt w n] (.t (.bool (decide (isN w n)))) := by
  refine Runs.of_call ?_ rfl
  refine CallS.of_fn tab_ok reg_ok Try.func16 rfl rfl ?_
  refine draw_intro [(0, false), (1, false), (2, true), (3, false), (4, false), (5, false), (6, false), (9, false), (7, false), (8, false), (10, false), (11, false), (12, true)] (by decide +kernel) ?_
  refine CallS.pure (width_runs w) rfl ?_
  refine br_intro (fun h => ?_) (fun h => ?_)
  · have h : 1 ≤ w ∧ w ≤ 128 := by simpa using h
    refine CallS.snap (of_runs w n) rfl rfl (And.intro (LeX.refl _ _) ?_)
    refine CallS.snap (to_runs w (by omega) (by omega) n hn) rfl rfl (And.intro (LeX.refl _ _) ?_)
    refine And.intro eq25 ?_
    refine And.intro (congrArg (fun b => some (T.bool b)) ?_) rfl
    have hm : n &&& maskN w = n % 2 ^ w.toNat := by rw [and_mask, Nat.min_eq_left (by omega)]
    rw [hm]
    by_cases hlt : n < 2 ^ w.toNat
    · rw [Nat.mod_eq_of_lt hlt, decide_eq_true (show isN w n from ⟨h, hlt⟩)]
      simp
    · rw [decide_eq_false (fun hh : isN w n => hlt hh.2)]
      have hne : n % 2 ^ w.toNat ≠ n := fun e => hlt (by have := Nat.mod_lt n (Nat.pow_pos (n := w.toNat) (show 0 < 2 by omega)); omega)
      generalize n % 2 ^ w.toNat = m at hne
      rw [Bool.eq_false_iff]
      intro hb
      simp at hb
      omega
  · have h : ¬ (1 ≤ w ∧ w ≤ 128) := by simpa using h
    have e : decide (isN w n) = false := decide_eq_false fun hh => h hh.1
    rw [e]
    exact And.intro (LeX.refl _ _) (And.intro (LeX.refl _ _) (And.intro rfl rfl))

end Go.Proofs.Ytkjhkcpgkccocaa
