/-
  Has (walk).
-/
import Derived.Test.YtnjmeadmkbkikaaGreatDoorIj
namespace Go.Proofs.YtnjmeadmkbkikaaGreatDoor
open Go.IntWalk
set_option maxRecDepth 100000
set_option linter.unusedVariables false
set_option linter.unusedSimpArgs false
set_option maxHeartbeats 4000000

def ord_14_11 : Ord := (.op 0 [] (.op 1 [0] (.op 2 [0] (.op 3 [] (.op 4 [3, 2, 1, 0] (.op 5 [3, 2, 1, 0] (.op 6 [] (.op 7 [] .nil))))))))
def ord_14_12 : Ord := (.op 0 [] (.op 1 [0] (.op 2 [0] (.op 3 [] (.op 4 [3, 2, 1, 0] (.op 5 [3, 2, 1, 0] (.op 6 [] (.op 7 [] .nil))))))))
/-- Has a class the value? -/
def hasK (k : ClassD) (v : Int) : Bool :=
  if v ∈ k.excl then false
  else if k.kind = 1 then decide (v ≥ k.plus) && fitsU (v - k.plus) k.bits
  else if v % 2 ^ k.shift.toNat ≠ 0 then false
  else if k.kind = 2 then fitsU (v / 2 ^ k.shift.toNat) k.bits
  else fitsS (v / 2 ^ k.shift.toNat) k.bits
def hasC (d : DescD) (c v : Int) : Bool := match at? d.classes c with | some k => hasK k v | none => false

theorem and_low (v : Int) (s : Nat) (hs : s ≤ 63) : bitsOp .and .i64 v (2 ^ s - 1) = v % 2 ^ s := by
  have hp : (0 : Int) < 2 ^ s := Int.pow_pos (by omega)
  have hp2 : (2 : Int) ^ s ≤ 9223372036854775808 := by
    have : (2 : Nat) ^ s ≤ 2 ^ 63 := Nat.pow_le_pow_right (by omega) hs
    have h2 : ((2 ^ s : Nat) : Int) ≤ ((2 ^ 63 : Nat) : Int) := by exact_mod_cast this
    simpa using h2
  have hd : (2 : Int) ^ s ∣ 18446744073709551616 := by
    have : (2 : Nat) ^ s ∣ 2 ^ 64 := Nat.pow_dvd_pow 2 (by omega)
    have h2 : ((2 ^ s : Nat) : Int) ∣ ((2 ^ 64 : Nat) : Int) := Int.natCast_dvd_natCast.2 this
    simpa using h2
  have e : (BitVec.ofInt 64 v &&& BitVec.ofInt 64 (2 ^ s - 1)).toNat = (v % 2 ^ s).toNat := by
    rw [BitVec.toNat_and, BitVec.toNat_ofInt, BitVec.toNat_ofInt]
    have h1 : ((2 ^ s - 1 : Int) % ((2 ^ 64 : Nat) : Int)).toNat = 2 ^ s - 1 := by
      have : ((2 ^ 64 : Nat) : Int) = 18446744073709551616 := by decide
      rw [this, Int.emod_eq_of_lt (by omega) (by omega)]
      have : ((2 ^ s : Nat) : Int) = 2 ^ s := by simp
      omega
    rw [h1, Nat.and_two_pow_sub_one_eq_mod]
    have h3 : 0 ≤ v % ((2 ^ 64 : Nat) : Int) := Int.emod_nonneg _ (by decide)
    have h4 : 0 ≤ v % 2 ^ s := Int.emod_nonneg _ (by omega)
    apply Int.ofNat.inj
    show ((_ : Nat) : Int) = ((_ : Nat) : Int)
    rw [Int.natCast_emod, Int.toNat_of_nonneg h3, Int.toNat_of_nonneg h4]
    have : ((2 ^ s : Nat) : Int) = 2 ^ s := by simp
    rw [this, Int.emod_emod_of_dvd _ (by simpa using hd)]
  show IntKind.i64.wrap (((BitVec.ofInt 64 v &&& BitVec.ofInt 64 (2 ^ s - 1)).toNat : Nat) : Int) = _
  have h4 : 0 ≤ v % 2 ^ s := Int.emod_nonneg _ (by omega)
  have h5 : v % 2 ^ s < 2 ^ s := Int.emod_lt_of_pos _ hp
  rw [e, Int.toNat_of_nonneg h4, IntKind.wrap_i64]
  omega

theorem shl1 {sh a : Int} {s : Nat} (h : sh = (s : Int)) (hs : s ≤ 63) (ha : a = IntKind.i64.wrap (2 ^ s)) : IntKind.i64.wrap (1 * 2 ^ (min sh.toNat IntKind.i64.bits)) = a := by
  rw [show IntKind.i64.bits = 64 from rfl, show sh.toNat = s by omega, Nat.min_eq_left (by omega), ha, Int.one_mul]
theorem mask1 {a mk : Int} {s : Nat} (hs : s ≤ 63) (ha : a = IntKind.i64.wrap (2 ^ s)) (hmk : mk = 2 ^ s - 1) : IntKind.i64.wrap (a - 1) = mk := by
  have hp : (0 : Int) < 2 ^ s := Int.pow_pos (by omega)
  have hp2 : (2 : Int) ^ s ≤ 9223372036854775808 := by
    have : (2 : Nat) ^ s ≤ 2 ^ 63 := Nat.pow_le_pow_right (by omega) hs
    have h2 : ((2 ^ s : Nat) : Int) ≤ ((2 ^ 63 : Nat) : Int) := by exact_mod_cast this
    simpa using h2
  rw [ha, hmk]
  simp only [IntKind.wrap_i64]
  omega
theorem low1 {v mk r : Int} {s : Nat} (hs : s ≤ 63) (hmk : mk = 2 ^ s - 1) (hr : r = v % 2 ^ s) : bitsOp .and .i64 v mk = r := by
  rw [hmk, hr]; exact and_low v s hs
theorem shr1 {v sh q : Int} {s : Nat} (h : sh = (s : Int)) (hs : s ≤ 63) (hq : q = v / 2 ^ s) : v.fdiv (2 ^ (min sh.toNat IntKind.i64.bits)) = q := by
  have hp : (0 : Int) < 2 ^ s := Int.pow_pos (by omega)
  rw [show IntKind.i64.bits = 64 from rfl, show sh.toNat = s by omega, Nat.min_eq_left (by omega), hq, Int.fdiv_eq_ediv_of_nonneg _ (by omega)]
theorem div_in {v q : Int} {s : Nat} (hv : -9223372036854775808 ≤ v ∧ v ≤ 9223372036854775807) (hq : q = v / 2 ^ s) : -9223372036854775808 ≤ q ∧ q ≤ 9223372036854775807 := by
  have hp : (0 : Int) < 2 ^ s := Int.pow_pos (by omega)
  rw [hq]
  by_cases h : 0 ≤ v
  · have h1 := Int.ediv_nonneg h (Int.le_of_lt hp)
    have h2 := Int.ediv_le_self (2 ^ s) h
    omega
  · have h1 : v / 2 ^ s < 0 := Int.ediv_neg_of_neg_of_pos (by omega) hp
    have h2 : v ≤ v / 2 ^ s := by
      rw [Int.le_ediv_iff_mul_le hp]
      have h3 : 0 ≤ (-v) * ((2 : Int) ^ s - 1) := Int.mul_nonneg (by omega) (by omega)
      rw [Int.mul_sub, Int.mul_one, Int.neg_mul] at h3
      omega
    omega

theorem has_runs (d : DescD) (hcl : d.classes.length ≤ 2000000) (hse : ∀ k ∈ d.classes, k.excl.length ≤ 2000000) (hok : ∀ k ∈ d.classes, ClassOK d k) (P : List PatD) (root : T) (c v : Int) (hc : I64 c) (hv : I64 v) : Runs Tryz.prog 14 [codT d P root, .int .i64 c, .int .i64 v] (.t (.bool (hasC d c v))) := by
  have hm1 : (d.classes.map classT).length = d.classes.length := by simp
  refine Runs.of_call ?_ rfl
  refine CallS.of_fn tabS_ok regS_ok Tryz.func14 rfl rfl ?_
  have hI : I64 c := hc
  refine br_intro (fun c1 => ?_) (fun c1 => ?_)
  · have c1 := of_decide_eq_true c1
    rw [hasC, at_none (by omega)]
    exact And.intro rfl rfl
  have c1 := of_decide_eq_false c1
  obtain ⟨m, rfl⟩ := Int.eq_ofNat_of_zero_le (show 0 ≤ c by omega)
  refine br_intro (fun c2 => ?_) (fun c2 => ?_)
  · have c2 := of_decide_eq_true c2
    rw [hasC, at_none (by rw [hm1] at c2; omega)]
    exact And.intro rfl rfl
  have c2 : m < d.classes.length := by have := of_decide_eq_false c2; rw [hm1] at this; omega
  obtain ⟨k, hk, hkm⟩ := get_some (R := d.classes) (i := m) c2
  have hck := hok k hkm
  have hC : hasC d m v = hasK k v := by rw [hasC, at?, if_pos (by omega), Int.toNat_natCast, hk]
  rw [hC]
  refine opt_intro (show (d.classes.map classT)[((m : Nat) : Int).toNat]? = some (classT k) from by rw [Int.toNat_natCast, List.getElem?_map, hk]; rfl) ?_
  refine CallS.frzG (contains_ints k.excl v (by have := hse k hkm; omega)) rfl ⟨.refl _, .refl _, trivial⟩ ?_
  refine br_intro (fun c3 => ?_) (fun c3 => ?_)
  · have c3 : v ∈ k.excl := of_decide_eq_true c3
    rw [hasK, if_pos c3]
    exact And.intro rfl rfl
  have c3 : v ∉ k.excl := of_decide_eq_false c3
  rw [hasK, if_neg c3]
  refine br_intro (fun c4 => ?_) (fun c4 => ?_)
  · have c4 : k.kind = 1 := by simpa using c4
    rw [if_pos c4]
    refine br_intro (fun c5 => ?_) (fun c5 => ?_)
    · have c5' : k.plus ≤ v := of_decide_eq_true c5
      rw [decide_eq_true (show v ≥ k.plus from c5'), Bool.true_and]
      refine st_intro (n := v - k.plus) (i64_in _ (by have hv1 : -9223372036854775808 ≤ v ∧ v ≤ 9223372036854775807 := hv; rcases hck with ⟨_, _, _, h, _⟩ | ⟨h, _⟩ | ⟨h, _⟩ <;> omega)) ?_
      refine CallS.pure (fitsU_runs _ _) rfl ?_
      exact And.intro rfl rfl
    · have c5' : ¬ v ≥ k.plus := of_decide_eq_false c5
      rw [decide_eq_false c5', Bool.false_and]
      exact And.intro rfl rfl
  have c4 : k.kind ≠ 1 := by simpa using c4
  rw [if_neg c4]
  have hsh : 0 ≤ k.shift ∧ k.shift ≤ 63 := by
    rcases hck with ⟨h, _⟩ | ⟨_, h1, h2, _⟩ | ⟨_, h1, h2, _⟩ <;> omega
  obtain ⟨s, hs⟩ := Int.eq_ofNat_of_zero_le hsh.1
  have hs63 : s ≤ 63 := by omega
  rw [show k.shift.toNat = s by omega]
  obtain ⟨a, ha⟩ : ∃ a : Int, a = IntKind.i64.wrap (2 ^ s) := ⟨_, rfl⟩
  obtain ⟨mk, hmk⟩ : ∃ mk : Int, mk = 2 ^ s - 1 := ⟨_, rfl⟩
  obtain ⟨r, hr⟩ : ∃ r : Int, r = v % 2 ^ s := ⟨_, rfl⟩
  obtain ⟨q, hq⟩ : ∃ q : Int, q = v / 2 ^ s := ⟨_, rfl⟩
  refine ck_intro (decide_eq_true hsh.1) ?_
  refine st_intro (n := a) (shl1 hs hs63 ha) ?_
  refine st_intro (n := mk) (mask1 hs63 ha hmk) ?_
  refine st_intro (n := r) (low1 hs63 hmk hr) ?_
  rw [← hr, ← hq]
  refine br_intro (fun c5 => ?_) (fun c5 => ?_)
  · have c5 : r ≠ 0 := by simpa using c5
    rw [if_pos c5]
    exact And.intro rfl rfl
  have c5 : r = 0 := by simpa using c5
  rw [if_neg (by omega)]
  refine br_intro (fun c6 => ?_) (fun c6 => ?_)
  · have c6 : k.kind = 2 := by simpa using c6
    rw [if_pos c6]
    refine draw_introXS (fun _ => []) ord_14_11 (by decide +kernel) ?_
    refine ck_intro (decide_eq_true hsh.1) ?_
    refine st_intro (n := q) (shr1 hs hs63 hq) ?_
    refine CallS.pure (fitsU_runs _ _) rfl ?_
    conv => whnf
    exact And.intro (fun j hj => by cases hj) (And.intro (fun j hj => by cases hj) (And.intro rfl rfl))
  have c6 : k.kind ≠ 2 := by simpa using c6
  rw [if_neg c6]
  refine draw_introXS (fun _ => []) ord_14_12 (by decide +kernel) ?_
  refine ck_intro (decide_eq_true hsh.1) ?_
  refine st_intro (n := q) (shr1 hs hs63 hq) ?_
  refine CallS.pure (fitsS_runs _ _ (div_in hv hq)) rfl ?_
  conv => whnf
  exact And.intro (fun j hj => by cases hj) (And.intro (fun j hj => by cases hj) (And.intro rfl rfl))

end Go.Proofs.YtnjmeadmkbkikaaGreatDoor
