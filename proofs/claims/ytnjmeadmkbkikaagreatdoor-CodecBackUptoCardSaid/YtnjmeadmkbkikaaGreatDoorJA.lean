/-
  The ground of the walks of this seat, part JA.
-/
import Derived.Test.YtnjmeadmkbkikaaGreatDoorJv
namespace Go.Proofs.YtnjmeadmkbkikaaGreatDoor
open Go.IntWalk
set_option maxRecDepth 100000
set_option linter.unusedVariables false
set_option linter.unusedSimpArgs false
set_option maxHeartbeats 2000000

def ord_84_2 : Ord := (.op 0 [] (.op 1 [] (.op 2 [1, 0] (.op 3 [1, 0] (.op 4 [] (.op 5 [4, 3, 2, 1, 0] (.op 6 [4, 3, 2, 1, 0] (.op 7 [] (.op 8 [] .nil)))))))))
/-- The bits of a value (as a number of 64 bits). -/
def encN (k : ClassD) (v : Int) : Nat := ((v - k.plus) / 2 ^ k.shift.toNat % 18446744073709551616).toNat
theorem encN_lt (k : ClassD) (v : Int) : encN k v < 18446744073709551616 := by unfold encN; omega

theorem encoded_runs (d : DescD) (k : ClassD) (hk : ClassOK d k) (v : Int) (hv : I64 v) (hp : -9223372036854775808 ≤ v - k.plus) : Runs Tryz.prog 38 [classT k, .int .i64 v] (.t (.int .u64 (encN k v))) := by
  have hsh : 0 ≤ k.shift ∧ k.shift ≤ 63 := by rcases hk with h | h | h <;> omega
  have hpl : 0 ≤ k.plus ∧ k.plus < 64 := by rcases hk with h | h | h <;> omega
  obtain ⟨s, hs⟩ : ∃ s : Nat, k.shift = s := ⟨k.shift.toNat, by omega⟩
  have hs' : k.shift.toNat = s := by omega
  obtain ⟨u, hu⟩ : ∃ u, u = v - k.plus := ⟨_, rfl⟩
  obtain ⟨q, hq⟩ : ∃ q, q = u / 2 ^ s := ⟨_, rfl⟩
  have hv := hv
  unfold I64 at hv
  have hq1 := div_in (by omega) hq
  have he : encN k v = (q % 18446744073709551616).toNat := by rw [encN, ← hu, hs', hq]
  obtain ⟨e, hee⟩ : ∃ e, e = encN k v := ⟨_, rfl⟩
  rw [← hee]
  refine Runs.of_call ?_ rfl
  refine CallS.of_fn tabS_ok regS_ok Tryz.func38 rfl rfl ?_
  refine st_intro (n := u) (by rw [IntKind.wrap_i64]; omega) ?_
  refine ck_intro (decide_eq_true hsh.1) ?_
  refine st_intro (n := q) (shr1 hs (by omega) hq) ?_
  refine st_intro (n := (e : Int)) (by rw [IntKind.wrap_u64]; omega) ?_
  exact And.intro rfl rfl

theorem decoded_runs (d : DescD) (k : ClassD) (hk : ClassOK d k) (n : Nat) (hn : n < 2 ^ k.bits.toNat) : Runs Tryz.prog 84 [classT k, .int .u64 n] (.t (.int .i64 (valueV k n))) := by
  have hsh : 0 ≤ k.shift ∧ k.shift ≤ 63 := by rcases hk with h | h | h <;> omega
  have hb : 1 ≤ k.bits ∧ k.bits ≤ 64 := by rcases hk with h | h | h <;> omega
  have hpl : 0 ≤ k.plus ∧ k.plus < 64 := by rcases hk with h | h | h <;> omega
  have hn64 : n < 18446744073709551616 := Nat.lt_of_lt_of_le hn (pow_le (b := 64) (by omega))
  by_cases c12 : k.kind = 1 ∨ k.kind = 2
  · have hval : valueV k n = ((n * 2 ^ k.shift.toNat : Nat) : Int) + k.plus := by
      rw [valueV]
      rcases hk with h | h | h
      · rw [if_pos h.1, h.2.2.1]; simp
      · rw [if_neg (by omega), if_pos h.1, h.2.2.2, Int.natCast_mul, int_pow]; simp
      · omega
    have h2 : n * 2 ^ k.shift.toNat < 2 ^ 62 := by
      have h3 : n * 2 ^ k.shift.toNat < 2 ^ k.bits.toNat * 2 ^ k.shift.toNat := Nat.mul_lt_mul_of_pos_right hn (Nat.two_pow_pos _)
      rw [← Nat.pow_add] at h3
      exact Nat.lt_of_lt_of_le h3 (pow_le (by rcases hk with h | h | h <;> omega))
    have h4 : n ≤ n * 2 ^ k.shift.toNat := Nat.le_mul_of_pos_right _ (Nat.two_pow_pos _)
    obtain ⟨m, hm⟩ : ∃ m, m = n * 2 ^ k.shift.toNat := ⟨_, rfl⟩
    obtain ⟨vv, hvv⟩ : ∃ vv, vv = valueV k n := ⟨_, rfl⟩
    rw [← hm] at hval h2 h4
    rw [← hvv] at hval ⊢
    refine Runs.of_call ?_ rfl
    refine CallS.of_fn tabS_ok regS_ok Tryz.func84 rfl rfl ?_
    have tail : ∀ {Q : St → Prop} {s : St}, Q s → Q s := fun h => h
    refine br_intro (fun c => ?_) (fun c => ?_)
    · refine draw_introS ord_84_2 (by decide +kernel) ?_
      refine st_intro (n := (n : Int)) (by rw [IntKind.wrap_i64]; omega) ?_
      refine ck_intro (decide_eq_true hsh.1) ?_
      refine st_intro (n := (m : Int)) (show IntKind.i64.wrap ((n : Int) * 2 ^ (min (Int.toNat k.shift) IntKind.i64.bits)) = _ from by
        rw [min64 (by show k.shift.toNat ≤ 64; omega), ← int_pow, ← Int.natCast_mul, ← hm, IntKind.wrap_i64]; omega) ?_
      refine st_intro (n := vv) (by rw [IntKind.wrap_i64]; omega) ?_
      refine And.intro (fun j hj => by first | (cases hj; done) | exact LeX.append _ _ _ | exact LeX.refl _ _) ?_
      exact And.intro rfl rfl
    · have c : ¬ k.kind = 1 := by simpa using c
      refine br_intro (fun c2 => ?_) (fun c2 => absurd c2 (by rw [show k.kind = 2 by omega]; decide))
      refine draw_introS ord_84_2 (by decide +kernel) ?_
      refine st_intro (n := (n : Int)) (by rw [IntKind.wrap_i64]; omega) ?_
      refine ck_intro (decide_eq_true hsh.1) ?_
      refine st_intro (n := (m : Int)) (show IntKind.i64.wrap ((n : Int) * 2 ^ (min (Int.toNat k.shift) IntKind.i64.bits)) = _ from by
        rw [min64 (by show k.shift.toNat ≤ 64; omega), ← int_pow, ← Int.natCast_mul, ← hm, IntKind.wrap_i64]; omega) ?_
      refine st_intro (n := vv) (by rw [IntKind.wrap_i64]; omega) ?_
      refine And.intro (fun j hj => by first | (cases hj; done) | exact LeX.append _ _ _ | exact LeX.refl _ _) ?_
      exact And.intro rfl rfl
  · obtain ⟨B, hB⟩ : ∃ B, B = 2 ^ k.bits.toNat := ⟨_, rfl⟩
    obtain ⟨S, hS⟩ : ∃ S, S = 2 ^ k.shift.toNat := ⟨_, rfl⟩
    obtain ⟨H, hH2⟩ : ∃ H, H = 2 ^ (k.bits.toNat - 1) := ⟨_, rfl⟩
    have hH : H * 2 = B := by rw [hH2, hB, ← Nat.pow_succ]; congr 1; omega
    have hN : isN k.bits n := ⟨by omega, hn⟩
    obtain ⟨v, hv⟩ : ∃ v : Int, v = if H ≤ n then (n : Int) - B else n := ⟨_, rfl⟩
    have hsv : sval k.bits n = v := by
      rw [sval, hv, hH2, hB, show (k.bits - 1).toNat = k.bits.toNat - 1 by omega, int_pow]
    rw [← hB] at hn
    have hvB : -(H : Int) ≤ v ∧ v < H := by rw [hv]; split <;> omega
    have hHS : H * S ≤ 9223372036854775808 := by
      rw [hH2, hS, ← Nat.pow_add]
      exact pow_le (b := 63) (by rcases hk with h | h | h <;> omega)
    have hH63 : H ≤ 9223372036854775808 := by rw [hH2]; exact pow_le (b := 63) (by omega)
    have hvS : -9223372036854775808 ≤ v * (S : Int) ∧ v * (S : Int) ≤ 9223372036854775807 := by
      have e : ((H * S : Nat) : Int) = (H : Int) * S := Int.natCast_mul _ _
      have h1 : -(H : Int) * S ≤ v * S := Int.mul_le_mul_of_nonneg_right hvB.1 (by omega)
      have h2 : v * S ≤ ((H : Int) - 1) * S := Int.mul_le_mul_of_nonneg_right (by omega) (by omega)
      have hS0 : 0 < S := by rw [hS]; exact Nat.two_pow_pos _
      rw [Int.neg_mul] at h1
      rw [Int.sub_mul] at h2
      omega
    have hmk := make_runs k.bits n (by omega)
    rw [Nat.div_eq_of_lt hn64, Nat.mod_eq_of_lt hn64, makeT, if_pos (by omega), and_mask, Nat.min_eq_left (by omega), Nat.mod_eq_of_lt (by rw [← hB]; exact hn)] at hmk
    have hit := int_runs k.bits n (by omega)
    rw [intR, if_pos ⟨hN, by rw [hsv]; omega⟩, hsv] at hit
    obtain ⟨vv, hvv⟩ : ∃ vv, vv = valueV k n := ⟨_, rfl⟩
    have hval : vv = v * (S : Int) := by rw [hvv, valueV, if_neg (by omega), if_neg (by omega), hv, hS, int_pow, ← hH2, ← int_pow, ← hB]
    rw [← hvv]
    refine Runs.of_call ?_ rfl
    refine CallS.of_fn tabS_ok regS_ok Tryz.func84 rfl rfl ?_
    have k1 : (k.kind == 1) = false := by simp; omega
    refine br_intro (fun c => absurd c (by rw [k1]; decide)) (fun c => ?_)
    have k2 : (k.kind == 2) = false := by simp; omega
    refine br_intro (fun c => absurd c (by rw [k2]; decide)) (fun c => ?_)
    refine CallS.pure hmk rfl ?_
    refine CallS.frzG hit rfl ⟨.refl _, trivial⟩ ?_
    refine ck_intro (decide_eq_true hsh.1) ?_
    refine st_intro (n := vv) (show IntKind.i64.wrap (v * 2 ^ (min (Int.toNat k.shift) IntKind.i64.bits)) = _ from by
      rw [min64 (by show k.shift.toNat ≤ 64; omega), ← int_pow, ← hS, IntKind.wrap_i64, hval]; omega) ?_
    exact And.intro rfl rfl

end Go.Proofs.YtnjmeadmkbkikaaGreatDoor

namespace Go.Proofs.YtnjmeadmkbkikaaGreatDoor
open Go.IntWalk
set_option maxRecDepth 100000
set_option linter.unusedVariables false
set_option linter.unusedSimpArgs false
set_option maxHeartbeats 1000000

/-! ### A value and its bits -/

theorem mod_mod_pow {a : Int} {b : Nat} (hb : b ≤ 64) : a % 18446744073709551616 % ((2 ^ b : Nat) : Int) = a % ((2 ^ b : Nat) : Int) := by
  have e : (18446744073709551616 : Int) = ((2 ^ b : Nat) : Int) * ((2 ^ (64 - b) : Nat) : Int) := by
    rw [← Int.natCast_mul, ← Nat.pow_add, show b + (64 - b) = 64 by omega]; rfl
  rw [e]
  exact Int.emod_emod_of_dvd _ ⟨_, rfl⟩
/-- The lowest bits of a value's bits. -/
theorem encN_mod (k : ClassD) (v : Int) {b : Nat} (hb : b ≤ 64) : ((encN k v % 2 ^ b : Nat) : Int) = (v - k.plus) / 2 ^ k.shift.toNat % ((2 ^ b : Nat) : Int) := by
  unfold encN
  rw [Int.natCast_emod, Int.toNat_of_nonneg (Int.emod_nonneg _ (by decide)), mod_mod_pow hb]
theorem hasK_mem {k : ClassD} {v : Int} (h : hasK k v = true) : v ∉ k.excl := by
  intro hm; rw [hasK, if_pos hm] at h; cases h
theorem dvd_back {v : Int} {s : Nat} (h : v % 2 ^ s = 0) : v / 2 ^ s * 2 ^ s = v := Int.ediv_mul_cancel (Int.dvd_of_emod_eq_zero h)

theorem fitsS_in {q : Int} {b : Int} (hq : I64 q) (h1 : 1 ≤ b) (h2 : b ≤ 64) : fitsS q b = true ↔ -((2 ^ (b.toNat - 1) : Nat) : Int) ≤ q ∧ q < ((2 ^ (b.toNat - 1) : Nat) : Int) := by
  unfold I64 at hq
  by_cases h : b = 64
  · subst h
    have : ((2 ^ (Int.toNat 64 - 1) : Nat) : Int) = 9223372036854775808 := by decide
    rw [this]
    refine ⟨fun _ => by omega, fun _ => ?_⟩
    unfold fitsS; exact decide_eq_true ⟨by omega, .inl (by omega)⟩
  · obtain ⟨p, hp⟩ : ∃ p : Nat, b - 1 = p := ⟨(b - 1).toNat, by omega⟩
    rw [fitsS_eq (by omega) hp (by omega) rfl, show b.toNat - 1 = p by omega, int_pow]
    simp only [decide_eq_true_iff]
    omega
theorem fitsU_in {q : Int} {b : Int} (h1 : 1 ≤ b) (h2 : b ≤ 62) : fitsU q b = true ↔ 0 ≤ q ∧ q < ((2 ^ b.toNat : Nat) : Int) := by
  by_cases h0 : 0 ≤ q
  · have e : fitsU q b = decide (q < 2 ^ b.toNat) := by
      have := fitsU_eq (n := q) (b := b.toNat) (by omega) (by omega) h0
      rwa [Int.toNat_of_nonneg (by omega)] at this
    rw [e, int_pow]; simp [h0]
  · unfold fitsU; simp [h0]

/-- The value of a value's bits is the value. -/
theorem dec_enc {d : DescD} {k : ClassD} (hk : ClassOK d k) {v : Int} (hv : I64 v) (h : hasK k v = true) : valueV k (encN k v % 2 ^ k.bits.toNat) = v := by
  have hb : 1 ≤ k.bits ∧ k.bits ≤ 64 := by rcases hk with h | h | h <;> omega
  have hm := encN_mod k v (b := k.bits.toNat) (by omega)
  rw [hasK, if_neg (hasK_mem h)] at h
  obtain ⟨n, hn⟩ : ∃ n, n = encN k v % 2 ^ k.bits.toNat := ⟨_, rfl⟩
  rw [← hn] at hm ⊢
  obtain ⟨B, hB⟩ : ∃ B : Nat, B = 2 ^ k.bits.toNat := ⟨_, rfl⟩
  unfold I64 at hv
  rcases hk with c | c | c
  · rw [if_pos c.1] at h
    simp only [Bool.and_eq_true, decide_eq_true_iff] at h
    have h2 := (fitsU_in (by omega) (by omega)).1 h.2
    rw [valueV, if_pos c.1]
    rw [c.2.2.1, ← hB] at hm
    rw [← hB] at h2
    rw [show (v - k.plus) / 2 ^ Int.toNat 0 = v - k.plus by simp, Int.emod_eq_of_lt (by omega) (by omega)] at hm
    omega
  · have h0 : v % 2 ^ k.shift.toNat = 0 := by
      by_cases h0 : v % 2 ^ k.shift.toNat = 0
      · exact h0
      · rw [if_neg (by omega), if_pos h0] at h; cases h
    rw [if_neg (by omega), if_neg (by omega), if_pos c.1] at h
    have h2 := (fitsU_in (by omega) (by omega)).1 h
    rw [valueV, if_neg (by omega), if_pos c.1]
    rw [c.2.2.2, ← hB, Int.sub_zero] at hm
    rw [← hB] at h2
    rw [Int.emod_eq_of_lt h2.1 h2.2] at hm
    rw [hm]; exact dvd_back h0
  · have h0 : v % 2 ^ k.shift.toNat = 0 := by
      by_cases h0 : v % 2 ^ k.shift.toNat = 0
      · exact h0
      · rw [if_neg (by omega), if_pos h0] at h; cases h
    rw [if_neg (by omega), if_neg (by omega), if_neg (by omega)] at h
    obtain ⟨q, hq⟩ : ∃ q, q = v / 2 ^ k.shift.toNat := ⟨_, rfl⟩
    have hq1 := div_in hv hq
    rw [← hq] at h
    have h2 := (fitsS_in hq1 hb.1 hb.2).1 h
    have hH : 2 ^ (k.bits.toNat - 1) * 2 = B := by rw [hB, ← Nat.pow_succ]; congr 1; omega
    obtain ⟨H, hH2⟩ : ∃ H : Nat, H = 2 ^ (k.bits.toNat - 1) := ⟨_, rfl⟩
    rw [← hH2] at hH h2
    rw [c.2.2.2, ← hB, Int.sub_zero, ← hq] at hm
    rw [valueV, if_neg (by omega), if_neg (by omega), ← int_pow, ← hB, ← hH2]
    have e : (if H ≤ n then (n : Int) - B else n) = q := by
      by_cases hq0 : 0 ≤ q
      · rw [Int.emod_eq_of_lt hq0 (by omega)] at hm
        rw [if_neg (by omega)]; exact hm
      · have : q % (B : Int) = q + B := by
          rw [← Int.add_emod_right, Int.emod_eq_of_lt (by omega) (by omega)]
        rw [this] at hm
        rw [if_pos (by omega)]; omega
    rw [e, hq]; exact dvd_back h0

/-- The bits of the value of bits are the bits. -/
theorem enc_dec {d : DescD} {k : ClassD} (hk : ClassOK d k) {n : Nat} (hn : n < 2 ^ k.bits.toNat) (hx : valueV k n ∉ k.excl) : I64 (valueV k n) ∧ hasK k (valueV k n) = true ∧ encN k (valueV k n) % 2 ^ k.bits.toNat = n := by
  have hb : 1 ≤ k.bits ∧ k.bits ≤ 64 := by rcases hk with h | h | h <;> omega
  have hm := encN_mod k (valueV k n) (b := k.bits.toNat) (by omega)
  rw [hasK, if_neg hx]
  clear hx
  obtain ⟨e, he⟩ : ∃ e, e = encN k (valueV k n) % 2 ^ k.bits.toNat := ⟨_, rfl⟩
  rw [← he] at hm ⊢
  obtain ⟨B, hB⟩ : ∃ B : Nat, B = 2 ^ k.bits.toNat := ⟨_, rfl⟩
  obtain ⟨S, hS⟩ : ∃ S : Nat, S = 2 ^ k.shift.toNat := ⟨_, rfl⟩
  have hS0 : 0 < S := by rw [hS]; exact Nat.two_pow_pos _
  have hSi : (2 : Int) ^ k.shift.toNat = (S : Int) := by rw [hS, int_pow]
  unfold I64
  rcases hk with c | c | c
  · have hB6 : B ≤ 64 := by rw [hB]; exact pow_le (b := 6) (by omega)
    rw [valueV, if_pos c.1] at hm ⊢
    rw [← hB] at hn
    rw [c.2.2.1, ← hB, show ((n : Int) + k.plus - k.plus) / 2 ^ Int.toNat 0 = n by simp, Int.emod_eq_of_lt (by omega) (by omega)] at hm
    rw [if_pos c.1]
    refine ⟨by omega, ?_, by omega⟩
    simp only [Bool.and_eq_true, decide_eq_true_iff]
    refine ⟨by omega, (fitsU_in (by omega) (by omega)).2 ?_⟩
    rw [← hB]; omega
  · have hBS : B * S ≤ 4611686018427387904 := by rw [hB, hS, ← Nat.pow_add]; exact pow_le (b := 62) (by omega)
    have hnS : n * S < B * S := Nat.mul_lt_mul_of_pos_right (by rw [hB]; exact hn) hS0
    have hBS1 : B ≤ B * S := Nat.le_mul_of_pos_right _ hS0
    rw [valueV, if_neg (by omega), if_pos c.1, hSi] at hm ⊢
    rw [← hB] at hn
    rw [c.2.2.2, Int.sub_zero, Int.mul_ediv_cancel _ (by omega), ← hB, Int.emod_eq_of_lt (by omega) (by omega)] at hm
    rw [if_neg (by omega), if_pos c.1, Int.mul_ediv_cancel _ (by omega), if_neg (by rw [Int.mul_emod_left]; simp)]
    have e1 : (n : Int) * S = ((n * S : Nat) : Int) := (Int.natCast_mul _ _).symm
    refine ⟨by rw [e1]; omega, (fitsU_in (by omega) (by omega)).2 ?_, by omega⟩
    rw [← hB]; omega
  · obtain ⟨H, hH2⟩ : ∃ H : Nat, H = 2 ^ (k.bits.toNat - 1) := ⟨_, rfl⟩
    have hH : H * 2 = B := by rw [hH2, hB, ← Nat.pow_succ]; congr 1; omega
    have hHS : H * S ≤ 9223372036854775808 := by rw [hH2, hS, ← Nat.pow_add]; exact pow_le (b := 63) (by omega)
    rw [← hB] at hn
    obtain ⟨v, hv⟩ : ∃ v : Int, v = if H ≤ n then (n : Int) - B else n := ⟨_, rfl⟩
    have hvB : -(H : Int) ≤ v ∧ v < H := by rw [hv]; split <;> omega
    have hvS : -9223372036854775808 ≤ v * (S : Int) ∧ v * (S : Int) ≤ 9223372036854775807 := by
      have e : ((H * S : Nat) : Int) = (H : Int) * S := Int.natCast_mul _ _
      have h1 : -(H : Int) * S ≤ v * S := Int.mul_le_mul_of_nonneg_right hvB.1 (by omega)
      have h2 : v * S ≤ ((H : Int) - 1) * S := Int.mul_le_mul_of_nonneg_right (by omega) (by omega)
      rw [Int.neg_mul] at h1
      rw [Int.sub_mul] at h2
      omega
    have hval : valueV k n = v * (S : Int) := by rw [valueV, if_neg (by omega), if_neg (by omega), ← int_pow, ← hB, ← hH2, ← hv, hSi]
    rw [hval] at hm ⊢
    rw [c.2.2.2, Int.sub_zero, hSi, Int.mul_ediv_cancel _ (by omega), ← hB] at hm
    rw [if_neg (show ¬ k.kind = 1 by omega), if_neg (show ¬ k.kind = 2 by omega), hSi, Int.mul_ediv_cancel _ (by omega), if_neg (by rw [Int.mul_emod_left]; simp)]
    have hv64 : -9223372036854775808 ≤ v ∧ v ≤ 9223372036854775807 := by
      have h63 : H ≤ 9223372036854775808 := by rw [hH2]; exact pow_le (b := 63) (by omega)
      omega
    refine ⟨hvS, (fitsS_in hv64 hb.1 hb.2).2 (by rw [← hH2]; exact hvB), ?_⟩
    have e2 : v % (B : Int) = n := by
      rw [hv]
      split
      · next h => rw [← Int.add_emod_right, show (n : Int) - B + B = n by omega, Int.emod_eq_of_lt (by omega) (by omega)]
      · next h => rw [Int.emod_eq_of_lt (by omega) (by omega)]
    omega

/-! ### Every bit of an operand has a place -/

theorem nodup_len : ∀ (n : Nat) (l : List Nat), l.Nodup → (∀ x ∈ l, x < n) → l.length ≤ n
  | 0, l, _, h => by
    cases l with
    | nil => simp
    | cons x r => exact absurd (h x List.mem_cons_self) (Nat.not_lt_zero _)
  | n + 1, l, hd, h => by
    have h1 := nodup_len n (l.erase n) (hd.erase n) fun x hx => by
      have h2 := h x (List.mem_of_mem_erase hx)
      have h3 : x ≠ n := fun e => by subst e; exact (List.Nodup.mem_erase_iff hd).1 hx |>.1 rfl
      omega
    by_cases hm : n ∈ l
    · rw [List.length_erase_of_mem hm] at h1; omega
    · rw [List.erase_of_not_mem hm] at h1; omega
theorem pigeon {n : Nat} {l : List Nat} (hd : l.Nodup) (h : ∀ x ∈ l, x < n) (hl : l.length = n) {m : Nat} (hm : m < n) : m ∈ l := by
  by_cases hmm : m ∈ l
  · exact hmm
  · have := nodup_len n (m :: l) (List.nodup_cons.2 ⟨hmm, hd⟩) fun x hx => by
      rcases List.mem_cons.1 hx with rfl | hx
      · exact hm
      · exact h x hx
    simp at this; omega
theorem GoodF.pos {d : DescD} {f : FormD} (h : GoodF d f) {j m : Nat} {a : ArgD} {k : ClassD} (ha : f.args[j]? = some a) (hk : at? d.classes a.cls = some k) (hm : (m : Int) < k.bits) :
    ∃ (p : Nat) (y : BitD), (formBits d f)[p]? = some y ∧ y.arg = (j : Int) ∧ y.num = (m : Int) := by
  obtain ⟨l, hl⟩ : ∃ l, l = (rawB f.pieces).filter fun b => decide (b.arg = (j : Int)) := ⟨_, rfl⟩
  have hcnt := h.cnt j a k ha hk
  unfold cntB at hcnt
  rw [List.countP_eq_length_filter, ← hl] at hcnt
  have hin : ∀ b ∈ l, b ∈ rawB f.pieces ∧ b.arg = (j : Int) ∧ ∃ q : Nat, b.num = q ∧ (q : Int) < k.bits := fun b hb => by
    rw [hl] at hb
    obtain ⟨h1, h2⟩ := List.mem_filter.1 hb
    have h2 : b.arg = (j : Int) := of_decide_eq_true h2
    refine ⟨h1, h2, ?_⟩
    rcases h.isRaw b h1 with ⟨e, _⟩ | ⟨_, i, a', k', q, e1, e2, e3, e4, e5, _⟩
    · omega
    · have : i = j := by omega
      subst this
      rw [ha] at e2; cases e2
      rw [hk] at e3; cases e3
      exact ⟨q, e4, e5⟩
  have hd : (l.map fun b => b.num.toNat).Nodup := by
    rw [List.Nodup, List.pairwise_map]
    have hp : l.Pairwise fun x y => 0 ≤ x.arg → ¬ (x.arg = y.arg ∧ x.num = y.num) := by rw [hl]; exact List.Pairwise.filter _ h.dist
    refine List.Pairwise.imp_of_mem (fun {x y} hx hy hxy e => ?_) hp
    obtain ⟨_, a1, q1, b1, _⟩ := hin x hx
    obtain ⟨_, a2, q2, b2, _⟩ := hin y hy
    exact hxy (by omega) ⟨by omega, by omega⟩
  have hmem : m ∈ l.map fun b => b.num.toNat := pigeon (n := k.bits.toNat) hd (fun x hx => by
    obtain ⟨b, hb, rfl⟩ := List.mem_map.1 hx
    obtain ⟨_, _, q, e, h2⟩ := hin b hb
    show b.num.toNat < _
    omega) (by rw [List.length_map]; omega) (by omega)
  obtain ⟨b, hb, e⟩ := List.mem_map.1 hmem
  obtain ⟨h1, h2, q, e1, _⟩ := hin b hb
  have e : b.num.toNat = m := e
  obtain ⟨s, hs⟩ := List.mem_iff_getElem?.1 h1
  have hsl := (List.getElem?_eq_some_iff.1 hs).1
  refine ⟨posN d.order (rawB f.pieces).length s, b, ?_, h2, by omega⟩
  rw [formBits, placedL_get h.m8 (posN_lt hsl h.m8), posN_posN hsl]; exact hs

end Go.Proofs.YtnjmeadmkbkikaaGreatDoor

namespace Go.Proofs.YtnjmeadmkbkikaaGreatDoor
open Go.IntWalk
set_option maxRecDepth 100000
set_option linter.unusedVariables false
set_option linter.unusedSimpArgs false
set_option maxHeartbeats 1000000

/-- The bits of an operand's value. -/
def opN (d : DescD) (f : FormD) (V : List Int) (j : Nat) : Nat := match f.args[j]?, V[j]? with
  | some a, some v => (match at? d.classes a.cls with | some k => encN k v | none => 0)
  | _, _ => 0
theorem opN_eq {d : DescD} {f : FormD} {V : List Int} {j : Nat} {a : ArgD} {k : ClassD} {v : Int} (ha : f.args[j]? = some a) (hk : at? d.classes a.cls = some k) (hv : V[j]? = some v) : opN d f V j = encN k v := by
  unfold opN; simp only [ha, hv, hk]
/-- The bits while they are written: all of the operands before the i-th, and the first m of that. -/
def encB (d : DescD) (f : FormD) (V : List Int) (i m : Nat) (q : Nat) : Bool := match (formBits d f)[q]? with
  | none => false
  | some y => if y.arg < 0 then decide (y.lit = 49) else (decide (y.arg < (i : Int)) || (decide (y.arg = (i : Int)) && decide (y.num < (m : Int)))) && (opN d f V y.arg.toNat).testBit y.num.toNat
def outB (d : DescD) (f : FormD) (V : List Int) (q : Nat) : Bool := encB d f V f.args.length 0 q

section
variable {d : DescD} {f : FormD} {V : List Int} {i m : Nat}
theorem encB_zero (hG : GoodF d f) (q : Nat) : encB d f V 0 0 q = oneTo (formBits d f) (formBits d f).length q := by
  unfold encB oneTo
  cases hy : (formBits d f)[q]? with
  | none => rfl
  | some y =>
    have hq := (List.getElem?_eq_some_iff.1 hy).1
    simp only
    rcases hG.is_ hy with ⟨e, _, hl⟩ | ⟨hl, j, a, k, n, e1, e2, e3, e4, e5, _⟩
    · rw [if_pos (by omega)]
      by_cases h49 : y.lit = 49
      · simp [h49, hq, e]
      · simp [h49]
    · rw [if_neg (by omega)]
      have : ¬ y.arg < 0 := by omega
      have h2 : ¬ y.num < 0 := by omega
      simp [this, h2]
theorem encB_step (hG : GoodF d f) {p : Nat} {y : BitD} (hp : (formBits d f)[p]? = some y) (ha : y.arg = (i : Int)) (hn : y.num = (m : Int)) (q : Nat) :
    encB d f V i (m + 1) q = (encB d f V i m q || (decide (p = q) && (opN d f V i).testBit m)) := by
  unfold encB
  by_cases hpq : p = q
  · subst hpq
    rw [hp]
    simp only
    rw [if_neg (by omega), if_neg (by omega), ha, hn, Int.toNat_natCast, Int.toNat_natCast]
    have h1 : (m : Int) < (m : Int) + 1 := by omega
    have h2 : ¬ (m : Int) < (m : Int) := by omega
    simp [h1, h2]
  · cases hz : (formBits d f)[q]? with
    | none => simp [hpq]
    | some z =>
      simp only
      have hne := hG.apartBits hp hz hpq (by omega)
      rw [ha, hn] at hne
      by_cases h0 : z.arg < 0
      · rw [if_pos h0, if_pos h0]; simp [hpq]
      · rw [if_neg h0, if_neg h0]
        by_cases h1 : z.arg = (i : Int)
        · have h2 : ¬ (m : Int) = z.num := fun e => hne ⟨h1.symm, e⟩
          have h3 : (z.num < (m : Int) + 1) ↔ (z.num < (m : Int)) := by omega
          simp [hpq, h1, h3]
        · simp [hpq, h1]
theorem encB_next (hG : GoodF d f) {a : ArgD} {k : ClassD} (ha : f.args[i]? = some a) (hk : at? d.classes a.cls = some k) (hm : (m : Int) = k.bits) (q : Nat) : encB d f V i m q = encB d f V (i + 1) 0 q := by
  unfold encB
  cases hz : (formBits d f)[q]? with
  | none => rfl
  | some z =>
    simp only
    by_cases h0 : z.arg < 0
    · rw [if_pos h0, if_pos h0]
    · rw [if_neg h0, if_neg h0]
      congr 1
      rcases hG.is_ hz with ⟨e, _⟩ | ⟨_, j, a', k', n, e1, e2, e3, e4, e5, _⟩
      · omega
      · have h1 : ¬ z.num < (0 : Int) := by omega
        by_cases hj : z.arg = (i : Int)
        · have hji : j = i := by omega
          subst hji
          rw [ha] at e2; cases e2
          rw [hk] at e3; cases e3
          have h2 : z.num < (m : Int) := by omega
          have h3 : (j : Int) < (j : Int) + 1 := by omega
          simp [hj, h2, h3]
        · have h3 : z.arg < (i : Int) + 1 ↔ z.arg < (i : Int) := by omega
          simp [hj, h1, h3]
theorem outB_lit (hG : GoodF d f) {q : Nat} {y : BitD} (hy : (formBits d f)[q]? = some y) (h : y.arg < 0) : outB d f V q = decide (y.lit = 49) := by
  unfold outB encB; rw [hy]; simp only; rw [if_pos h]
theorem outB_op (hG : GoodF d f) {q j n : Nat} {y : BitD} (hy : (formBits d f)[q]? = some y) (h : y.arg = (j : Int)) (hn : y.num = (n : Int)) (hj : j < f.args.length) : outB d f V q = (opN d f V j).testBit n := by
  unfold outB encB; rw [hy]; simp only
  rw [if_neg (by omega), h, hn, Int.toNat_natCast, Int.toNat_natCast]
  have : (j : Int) < (f.args.length : Int) := by omega
  simp [this]
end

/-! ### Bytes of words, words of bytes -/

def wordByte (w0 w1 i : Nat) : Nat := if i < 8 then w0 / 2 ^ (8 * i) % 256 else w1 / 2 ^ (8 * (i - 8)) % 256
theorem wordByte_lt (w0 w1 i : Nat) : wordByte w0 w1 i < 256 := by unfold wordByte; split <;> omega
def outBytes (w0 w1 n : Nat) : List UInt8 := (List.range n).map fun i => UInt8.ofNat (wordByte w0 w1 i)
theorem outBytes_len (w0 w1 n : Nat) : (outBytes w0 w1 n).length = n := by simp [outBytes]
theorem u8_nat {x : Nat} (h : x < 256) : (UInt8.ofNat x).toNat = x := by rw [UInt8.toNat_ofNat']; exact Nat.mod_eq_of_lt h
theorem bitOf_out {w0 w1 n q : Nat} (hq : q < 8 * n) (hn : n ≤ 16) : bitOf (outBytes w0 w1 n) q = bit2 w0 w1 q := by
  unfold bitOf outBytes
  have h1 : q / 8 < n := by omega
  rw [List.getElem?_map, List.getElem?_range h1]
  show (UInt8.ofNat (wordByte w0 w1 (q / 8))).toNat.testBit (q % 8) = _
  rw [u8_nat (wordByte_lt _ _ _)]
  unfold wordByte bit2
  have h8 : q % 8 < 8 := Nat.mod_lt _ (by decide)
  by_cases h : q < 64
  · rw [if_pos (show q / 8 < 8 by omega), if_pos h, show (256 : Nat) = 2 ^ 8 from rfl, Nat.testBit_mod_two_pow, tb_div, show 8 * (q / 8) + q % 8 = q by omega]
    simp [h8]
  · rw [if_neg (show ¬ q / 8 < 8 by omega), if_neg h, show (256 : Nat) = 2 ^ 8 from rfl, Nat.testBit_mod_two_pow, tb_div, show 8 * (q / 8 - 8) + q % 8 = q - 64 by omega]
    simp [h8]
theorem bit2_of {m0 m1 : Nat} {P : Nat → Bool} (h : Bits2 m0 m1 P) {q : Nat} (hq : q < 128) : bit2 m0 m1 q = P q := by
  unfold bit2
  by_cases h1 : q < 64
  · rw [if_pos h1]; exact (h.2.2 q h1).1
  · rw [if_neg h1]
    have := (h.2.2 (q - 64) (by omega)).2
    rwa [show 64 + (q - 64) = q by omega] at this
/-- The bits of the first n bytes. -/
def bytB (b : List UInt8) (n q : Nat) : Bool := decide (q < 8 * n) && bitOf b q
theorem bytB_succ {b : List UInt8} {n : Nat} {x : UInt8} (hx : b[n]? = some x) (q : Nat) : bytB b (n + 1) q = (bytB b n q || (decide (8 * n ≤ q) && x.toNat.testBit (q - 8 * n))) := by
  unfold bytB
  by_cases h1 : q < 8 * n
  · have : ¬ 8 * n ≤ q := by omega
    simp [h1, this, show q < 8 * (n + 1) by omega]
  · by_cases h2 : q < 8 * (n + 1)
    · have e : bitOf b q = x.toNat.testBit (q - 8 * n) := by
        unfold bitOf
        rw [show q / 8 = n by omega, hx, show q % 8 = q - 8 * n by omega]; rfl
      simp [h1, h2, e, show 8 * n ≤ q by omega]
    · have hlt := x.toNat_lt
      have e : x.toNat.testBit (q - 8 * n) = false := Nat.testBit_lt_two_pow (Nat.lt_of_lt_of_le (show x.toNat < 2 ^ 8 from hlt) (Nat.pow_le_pow_right (by decide) (by omega)))
      simp [h1, h2, e]
theorem byte_shl {x : UInt8} {s : Nat} (h : s ≤ 56) : x.toNat * 2 ^ s < 18446744073709551616 := by
  have h1 : x.toNat < 2 ^ 8 := x.toNat_lt
  have h2 : x.toNat * 2 ^ s < 2 ^ 8 * 2 ^ s := Nat.mul_lt_mul_of_pos_right h1 (Nat.two_pow_pos _)
  rw [← Nat.pow_add] at h2
  exact Nat.lt_of_lt_of_le h2 (pow_le (b := 64) (by omega))
theorem Bits2.byte {b : List UInt8} {n m0 m1 : Nat} {x : UInt8} (h : Bits2 m0 m1 (bytB b n)) (hx : b[n]? = some x) (hn : n < 16) :
    (n < 8 → Bits2 (m0 ||| x.toNat * 2 ^ (8 * n)) m1 (bytB b (n + 1))) ∧ (∀ k, n = 8 + k → Bits2 m0 (m1 ||| x.toNat * 2 ^ (8 * k)) (bytB b (n + 1))) := by
  have hlt : x.toNat < 2 ^ 8 := x.toNat_lt
  constructor
  · intro h8
    refine ⟨Nat.or_lt_two_pow (n := 64) h.1 (byte_shl (by omega)), h.2.1, fun j hj => ⟨?_, ?_⟩⟩
    · rw [Nat.testBit_or, tb_mul, (h.2.2 j hj).1, bytB_succ hx]
    · rw [(h.2.2 j hj).2, bytB_succ hx]
      have e : x.toNat.testBit (64 + j - 8 * n) = false := Nat.testBit_lt_two_pow (Nat.lt_of_lt_of_le hlt (Nat.pow_le_pow_right (by decide) (by omega)))
      simp [e]
  · rintro k rfl
    refine ⟨h.1, Nat.or_lt_two_pow (n := 64) h.2.1 (byte_shl (by omega)), fun j hj => ⟨?_, ?_⟩⟩
    · rw [(h.2.2 j hj).1, bytB_succ hx]
      simp [show ¬ 8 * (8 + k) ≤ j by omega]
    · rw [Nat.testBit_or, tb_mul, (h.2.2 j hj).2, bytB_succ hx]
      have e : (8 * (8 + k) ≤ 64 + j) ↔ 8 * k ≤ j := by omega
      rw [show 64 + j - 8 * (8 + k) = j - 8 * k by omega]
      simp [e]

/-! ### What fits -/

/-- Fits a word's bits to a form? -/
def LitP (d : DescD) (f : FormD) (W : Nat → Bool) : Prop := ∀ (p : Nat) (x : BitD), (formBits d f)[p]? = some x → (x.lit = 48 → W p = false) ∧ (x.lit = 49 → W p = true)
def FitW (d : DescD) (f : FormD) (W : Nat → Bool) (have_ : Nat) : Prop :=
  (formBits d f).length ≤ 8 * have_ ∧ LitP d f W ∧ ∀ (i : Nat) a k n, f.args[i]? = some a → at? d.classes a.cls = some k → IsNum (formBits d f) i W n → valueV k n ∉ k.excl
/-- The values of its operands. -/
def FitV (d : DescD) (f : FormD) (W : Nat → Bool) (V : List Int) : Prop :=
  V.length = f.args.length ∧ ∀ (i : Nat) a k v, f.args[i]? = some a → at? d.classes a.cls = some k → V[i]? = some v → ∃ n, n < 2 ^ k.bits.toNat ∧ IsNum (formBits d f) i W n ∧ v = valueV k n ∧ v ∉ k.excl
theorem GoodF.len120 {d : DescD} {f : FormD} (h : GoodF d f) : (formBits d f).length ≤ 120 := by rw [formBits_len]; exact h.le
theorem fitW_iff {d : DescD} {f : FormD} (hG : GoodF d f) {b : List UInt8} {n : Nat} (hn : n = min b.length 15) : FitW d f (bytB b n) n ↔ FitsP d f b := by
  have h120 := hG.len120
  have hb : (formBits d f).length ≤ 8 * n ↔ (formBits d f).length ≤ 8 * b.length := by omega
  have he : (formBits d f).length ≤ 8 * n → ∀ (p : Nat) (x : BitD), (formBits d f)[p]? = some x → bytB b n p = bitOf b p := fun h p x hx => by
    have := (List.getElem?_eq_some_iff.1 hx).1
    unfold bytB; simp [show p < 8 * n by omega]
  constructor
  · rintro ⟨h1, h2, h3⟩
    refine ⟨hb.1 h1, fun p x hx => by rw [← he h1 p x hx]; exact h2 p x hx, fun i a k m ha hk hm => h3 i a k m ha hk (hm.congr fun p x hx _ => (he h1 p x hx).symm)⟩
  · rintro ⟨h1, h2, h3⟩
    have h1 := hb.2 h1
    refine ⟨h1, fun p x hx => by rw [he h1 p x hx]; exact h2 p x hx, fun i a k m ha hk hm => h3 i a k m ha hk (hm.congr fun p x hx _ => he h1 p x hx)⟩
/-- Masks compare the literals. -/
theorem litP_iff {d : DescD} {f : FormD} (hG : GoodF d f) {m0 m1 v0 v1 w0 w1 : Nat} {W : Nat → Bool} (hp : PatOK (formBits d f) (formBits d f).length m0 m1 v0 v1) (hw : Bits2 w0 w1 W) : (w0 &&& m0 = v0 ∧ w1 &&& m1 = v1) ↔ LitP d f W := by
  have h120 := hG.len120
  have key : ∀ (p : Nat) (x : BitD), (formBits d f)[p]? = some x → litTo (formBits d f) (formBits d f).length p = decide (x.arg < 0 ∧ x.lit ≠ 120) ∧ oneTo (formBits d f) (formBits d f).length p = (decide (x.arg < 0 ∧ x.lit ≠ 120) && decide (x.lit = 49)) := fun p x hx => by
    have := (List.getElem?_eq_some_iff.1 hx).1
    unfold litTo oneTo; rw [hx]; simp [this]
  have hnone : ∀ p, (formBits d f)[p]? = none → litTo (formBits d f) (formBits d f).length p = false ∧ oneTo (formBits d f) (formBits d f).length p = false := fun p hx => by
    unfold litTo oneTo; rw [hx]; exact ⟨rfl, rfl⟩
  have hbits : (w0 &&& m0 = v0 ∧ w1 &&& m1 = v1) ↔ ∀ q, q < 128 → (W q && litTo (formBits d f) (formBits d f).length q) = oneTo (formBits d f) (formBits d f).length q := by
    constructor
    · rintro ⟨e0, e1⟩ q hq
      by_cases h : q < 64
      · rw [← (hw.2.2 q h).1, ← (hp.mask.2.2 q h).1, ← (hp.want.2.2 q h).1, ← e0, Nat.testBit_and]
      · obtain ⟨j, rfl⟩ : ∃ j, q = 64 + j := ⟨q - 64, by omega⟩
        rw [← (hw.2.2 j (by omega)).2, ← (hp.mask.2.2 j (by omega)).2, ← (hp.want.2.2 j (by omega)).2, ← e1, Nat.testBit_and]
    · intro h
      have big : ∀ (x j : Nat), x < 18446744073709551616 → 64 ≤ j → x.testBit j = false := fun x j hx hj => Nat.testBit_lt_two_pow (Nat.lt_of_lt_of_le hx (pow_le (a := 64) hj))
      constructor <;> refine Nat.eq_of_testBit_eq fun j => ?_ <;> rw [Nat.testBit_and] <;> by_cases hj : j < 64
      · rw [(hw.2.2 j hj).1, (hp.mask.2.2 j hj).1, (hp.want.2.2 j hj).1]; exact h j (by omega)
      · rw [big w0 j hw.1 (by omega), big v0 j hp.want.1 (by omega)]; rfl
      · rw [(hw.2.2 j hj).2, (hp.mask.2.2 j hj).2, (hp.want.2.2 j hj).2]; exact h (64 + j) (by omega)
      · rw [big w1 j hw.2.1 (by omega), big v1 j hp.want.2.1 (by omega)]; rfl
  rw [hbits]
  constructor
  · intro h p x hx
    have hpl := (List.getElem?_eq_some_iff.1 hx).1
    have h1 := h p (by omega)
    obtain ⟨k1, k2⟩ := key p x hx
    rw [k1, k2] at h1
    rcases hG.is_ hx with ⟨e, _, hl⟩ | ⟨hl, j, _, _, _, e1, _⟩
    · constructor
      · intro h48; simp [e, h48] at h1; exact h1
      · intro h49; simp [e, h49] at h1; exact h1
    · exact ⟨fun h => by omega, fun h => by omega⟩
  · intro h q hq
    cases hx : (formBits d f)[q]? with
    | none => rw [(hnone q hx).1, (hnone q hx).2]; simp
    | some x =>
      obtain ⟨k1, k2⟩ := key q x hx
      rw [k1, k2]
      have h1 := h q x hx
      rcases hG.is_ hx with ⟨e, _, hl⟩ | ⟨hl, j, _, _, _, e1, _⟩
      · rcases hl with hl | hl | hl
        · rw [h1.1 hl]; simp [hl]
        · rw [h1.2 hl]; simp [hl, e]
        · simp [hl]
      · simp [show ¬ x.arg < 0 by omega]

end Go.Proofs.YtnjmeadmkbkikaaGreatDoor
