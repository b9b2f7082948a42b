/-
  The reference's Has (walk).
-/
import Derived.Test.YtnjmeadmkbkikaaGreatDoorIk
namespace Go.Proofs.YtnjmeadmkbkikaaGreatDoor
open Go.IntWalk
set_option maxRecDepth 100000
set_option linter.unusedVariables false
set_option linter.unusedSimpArgs false
set_option maxHeartbeats 4000000

def clC (k : ClassD) : List AV := [.t (.str k.name), .t (.int .i64 k.kind), .t (.int .i64 k.file), .t (.int .i64 k.bits), .t (.int .i64 k.shift), .t (.int .i64 k.plus), .t (.vecd 1 (k.excl.map (T.int .i64)))]

theorem powI_le {b n : Nat} (h : b ≤ n) : (2 : Int) ^ b ≤ 2 ^ n := by
  have : (2 : Nat) ^ b ≤ 2 ^ n := Nat.pow_le_pow_right (by omega) h
  have h2 : ((2 ^ b : Nat) : Int) ≤ ((2 ^ n : Nat) : Int) := by exact_mod_cast this
  simpa using h2
theorem fitsU_eq {n : Int} {b : Nat} (h1 : 1 ≤ b) (h2 : b ≤ 62) (h0 : 0 ≤ n) : fitsU n b = decide (n < 2 ^ b) := by
  obtain ⟨m, rfl⟩ := Int.eq_ofNat_of_zero_le h0
  have hp : 0 < 2 ^ b := Nat.pow_pos (by omega)
  have e : (((2 : Nat) ^ b : Nat) : Int) = 2 ^ b := by simp
  rw [fitsU, decide_eq_decide, Int.toNat_natCast, Int.toNat_natCast, Nat.div_eq_zero_iff, ← e]
  omega
theorem shlU {sh a : Int} {s : Nat} (h : sh = (s : Int)) (hs : s ≤ 62) (ha : a = 2 ^ s) : IntKind.i64.wrap (1 * 2 ^ (min sh.toNat IntKind.i64.bits)) = a := by
  have hp : (0 : Int) < 2 ^ s := Int.pow_pos (by omega)
  have hp2 := powI_le hs
  rw [show IntKind.i64.bits = 64 from rfl, show sh.toNat = s by omega, Nat.min_eq_left (by omega), Int.one_mul, IntKind.wrap_i64, ha]
  omega

theorem odd_low {v w : Int} {i s : Nat} (hv : v = w * 2 ^ i) (hw : w.tmod 2 ≠ 0) (hi : i < s) : v % 2 ^ s ≠ 0 := by
  intro h
  obtain ⟨c, hc⟩ := Int.dvd_of_emod_eq_zero h
  have hp : (0 : Int) < 2 ^ i := Int.pow_pos (by omega)
  have e : (2 : Int) ^ s = 2 ^ i * (2 * 2 ^ (s - i - 1)) := by
    rw [show (2 : Int) * 2 ^ (s - i - 1) = 2 ^ (s - i - 1 + 1) by rw [Int.pow_succ, Int.mul_comm], ← Int.pow_add]
    congr 1
    omega
  have h2 : (2 : Int) ^ i * w = 2 ^ i * (2 * 2 ^ (s - i - 1) * c) := by
    rw [Int.mul_comm, ← hv, hc, e, Int.mul_assoc]
  have h3 := Int.eq_of_mul_eq_mul_left (by omega) h2
  apply hw
  rw [h3, Int.mul_assoc, Int.mul_tmod_right]

theorem fitsS_eq {w b a : Int} {q : Nat} (hw : -9223372036854775808 ≤ w ∧ w ≤ 9223372036854775807) (h1 : b - 1 = (q : Int)) (h2 : q ≤ 62) (ha : a = 2 ^ q) : fitsS w b = decide (-a ≤ w ∧ w ≤ a - 1) := by
  have hp : (0 : Int) < 2 ^ q := Int.pow_pos (by omega)
  have hp2 := powI_le h2
  have hp2 : (2 : Int) ^ q ≤ 4611686018427387904 := hp2
  rw [fitsS, show (b - 1).toNat = q by omega, Int.fdiv_eq_ediv_of_nonneg _ (by omega), Int.fdiv_eq_ediv_of_nonneg _ (by decide), ← ha, decide_eq_decide]
  rw [← ha] at hp hp2
  have e0 : w / a = 0 ↔ 0 ≤ w ∧ w < a := by
    constructor
    · intro h
      have k1 := Int.emod_nonneg w (show a ≠ 0 by omega)
      have k2 := Int.emod_lt_of_pos w hp
      have k3 := Int.emod_add_mul_ediv w a
      rw [h, Int.mul_zero] at k3
      omega
    · rintro ⟨k1, k2⟩
      exact Int.ediv_eq_zero_of_lt k1 k2
  have e1 : w / a = -1 ↔ w < 0 ∧ -a ≤ w := by
    constructor
    · intro h
      have k1 := Int.emod_nonneg w (show a ≠ 0 by omega)
      have k2 := Int.emod_lt_of_pos w hp
      have k3 := Int.emod_add_mul_ediv w a
      rw [h] at k3
      omega
    · rintro ⟨k1, k2⟩
      have k3 : (w + a) / a = 0 := Int.ediv_eq_zero_of_lt (by omega) (by omega)
      have k4 : (w + a) / a = w / a + 1 := by
        have := Int.add_mul_ediv_right w 1 (show a ≠ 0 by omega)
        rwa [Int.one_mul] at this
      omega
  by_cases h0 : 0 ≤ w
  · have : w / 9223372036854775808 = 0 := by omega
    rw [this, e0]
    omega
  · have : w / 9223372036854775808 = -1 := by omega
    rw [this, e1]
    omega

theorem rhas_runs (d : DescD) (k : ClassD) (hck : ClassOK d k) (hse : k.excl.length ≤ 2000000) (v : Int) (hv : I64 v) : Runs Tryz.prog 17 [classT k, .int .i64 v] (.t (.bool (hasK k v))) := by
  have hm : (k.excl.map (T.int .i64)).length = k.excl.length := by simp
  refine Runs.of_call ?_ rfl
  refine CallS.of_fn tabS_ok regS_ok Tryz.func17 rfl rfl ?_
  refine loop_then (fun e s' => (e = .exit 0 ∧ v ∉ k.excl ∧ ∃ (b0 : AV) (i : Nat), s' = ⟨(13, b0) :: [(1, .t (.int .i64 v)), (2, .ptr 0 0 0 0), (10, .t (.vecd 1 (k.excl.map (T.int .i64)))), (11, .t (.int .i64 ((k.excl.map (T.int .i64)).length : Int))), (12, .t (.int .i64 ((i : Nat) : Int)))], [.box (clC k)]⟩) ∨ (e = .ret ∧ v ∈ k.excl ∧ ∃ env H, s' = ⟨(4, .t (.bool false)) :: env, H⟩)) (fun HQ' HQ => ?_) ?_
  · refine loop_on (fun i : Nat => i ≤ k.excl.length ∧ v ∉ k.excl.take i) (fun i => ⟨[(1, .t (.int .i64 v)), (2, .ptr 0 0 0 0), (10, .t (.vecd 1 (k.excl.map (T.int .i64)))), (11, .t (.int .i64 ((k.excl.map (T.int .i64)).length : Int))), (12, .t (.int .i64 ((i : Nat) : Int)))], [.box (clC k)]⟩)
      (fun i => k.excl.length - i) 0 ⟨Nat.zero_le _, by simp⟩ ?_ (fun i ⟨hi, hn⟩ => ?_)
    · exact weak_of ⟨rfl, rfl, rfl, rfl, rfl, trivial⟩ rfl
    refine br_intro (fun c => ?_) (fun c => ?_)
    rotate_left 1
    · have c' : (k.excl.map (T.int .i64)).length ≤ i := dge c
      refine HQ _ _ (.inl ⟨rfl, ?_, _, i, rfl⟩)
      rwa [List.take_of_length_le (by omega)] at hn
    have c' : i < (k.excl.map (T.int .i64)).length := dlt c
    obtain ⟨x, hx, hxm⟩ := get_some (R := k.excl) (i := i) (by omega)
    refine opt_intro (show (k.excl.map (T.int .i64))[((i : Nat) : Int).toNat]? = some (T.int .i64 x) from by rw [Int.toNat_natCast, List.getElem?_map, hx]; rfl) ?_
    refine br_intro (fun c2 => ?_) (fun c2 => ?_)
    · have c2 : x = v := by simpa using c2
      exact HQ _ _ (.inr ⟨rfl, c2 ▸ hxm, _, _, rfl⟩)
    have c2 : x ≠ v := by simpa using c2
    refine st_intro (n := ((i + 1 : Nat) : Int)) (nat_in (n := i + 1) (by omega)) ?_
    conv => whnf
    exact ⟨⟨i + 1, by omega, by
      rw [List.take_add_one, hx]
      simp only [Option.toList_some, List.mem_append, List.mem_singleton]
      rintro (h | h)
      · exact hn h
      · exact c2 h.symm⟩, weak_gc [0] rfl ⟨rfl, rfl, rfl, rfl, rfl, trivial⟩ ⟨rfl, trivial⟩, by show k.excl.length - (i + 1) < k.excl.length - i; omega⟩
  rintro _ _ (⟨rfl, hn, b0, i0, rfl⟩ | ⟨rfl, hn, env, H, rfl⟩)
  rotate_left 1
  · rw [hasK, if_pos hn]
    exact And.intro rfl rfl
  rw [hasK, if_neg hn]
  refine br_intro (fun c4 => ?_) (fun c4 => ?_)
  · have c4 : k.kind = 1 := by simpa using c4
    rw [if_pos c4]
    obtain ⟨hb, hpl⟩ : (1 ≤ k.bits ∧ k.bits ≤ 6) ∧ 0 ≤ k.plus ∧ k.plus < 64 := by
      rcases hck with ⟨_, h1, _, h2, h3, _⟩ | ⟨h, _⟩ | ⟨h, _⟩
      · exact ⟨h1, h2, h3⟩
      · omega
      · omega
    obtain ⟨b, hbb⟩ := Int.eq_ofNat_of_zero_le (show 0 ≤ k.bits by omega)
    obtain ⟨a, ha⟩ : ∃ a : Int, a = 2 ^ b := ⟨_, rfl⟩
    have hp : (0 : Int) < 2 ^ b := Int.pow_pos (by omega)
    have hp2 := powI_le (show b ≤ 6 by omega)
    refine br_intro (fun c5 => ?_) (fun c5 => ?_)
    · have c5' : k.plus ≤ v := of_decide_eq_true c5
      rw [decide_eq_true (show v ≥ k.plus from c5'), Bool.true_and, hbb, fitsU_eq (by omega) (by omega) (by omega)]
      refine st_intro (n := k.bits) (by rw [IntKind.wrap_u64]; omega) ?_
      refine ck_intro (decide_eq_true (by omega)) ?_
      refine st_intro (n := a) (shlU hbb (by omega) ha) ?_
      refine st_intro (n := k.plus + a) (i64_in _ (by omega)) ?_
      refine st_intro (n := k.plus + a - 1) (i64_in _ (by omega)) ?_
      refine And.intro (congrArg (fun b => some (T.bool b)) ?_) rfl
      rw [← ha]
      exact decide_eq_decide.2 (by omega)
    · have c5' : ¬ v ≥ k.plus := of_decide_eq_false c5
      rw [decide_eq_false c5', Bool.false_and]
      exact And.intro rfl rfl
  have c4 : k.kind ≠ 1 := by simpa using c4
  rw [if_neg c4]
  have hsh : 0 ≤ k.shift ∧ k.shift ≤ 63 := by
    rcases hck with ⟨h, _⟩ | ⟨_, h1, h2, _⟩ | ⟨_, h1, h2, _⟩ <;> omega
  obtain ⟨s, hs⟩ := Int.eq_ofNat_of_zero_le hsh.1
  have hs63 : s ≤ 63 := by omega
  rw [show k.shift.toNat = s by omega]
  have hvb : -9223372036854775808 ≤ v ∧ v ≤ 9223372036854775807 := hv
  refine loop_then (fun e s' => (e = .exit 2 ∧ ∃ (b0 b1 b2 : AV) (i : Nat) (w g : Int), v = w * 2 ^ s ∧ s' = ⟨(42, b0) :: (41, b1) :: (40, b2) :: (39, .t (.int .i64 ((i : Nat) : Int))) :: [(1, .t (.int .i64 w)), (2, .ptr 0 0 0 0), (7, .t (.int .i64 g)), (8, .t (.int .i64 ((i : Nat) : Int)))], [.box (clC k)]⟩) ∨ (e = .ret ∧ v % 2 ^ s ≠ 0 ∧ ∃ env H, s' = ⟨(4, .t (.bool false)) :: env, H⟩)) (fun HQ' HQ => ?_) ?_
  · refine loop_on (fun x : Nat × Int × Int => x.1 ≤ s ∧ v = x.2.1 * 2 ^ x.1 ∧ (-9223372036854775808 ≤ x.2.1 ∧ x.2.1 ≤ 9223372036854775807)) (fun x => ⟨[(1, .t (.int .i64 x.2.1)), (2, .ptr 0 0 0 0), (7, .t (.int .i64 x.2.2)), (8, .t (.int .i64 ((x.1 : Nat) : Int)))], [.box (clC k)]⟩)
      (fun x => s - x.1) (0, v, 1) ⟨Nat.zero_le _, by simp, hvb⟩ ?_ (fun ⟨i, w, g⟩ ⟨hi', hw', hr'⟩ => ?_)
    · exact weak_of ⟨rfl, rfl, rfl, rfl, trivial⟩ rfl
    have hi : i ≤ s := hi'
    have hw : v = w * 2 ^ i := hw'
    have hr : -9223372036854775808 ≤ w ∧ w ≤ 9223372036854775807 := hr'
    refine br_intro (fun c => ?_) (fun c => ?_)
    rotate_left 1
    · have c' : ¬ ((i : Int) < k.shift) := of_decide_eq_false c
      have hie : i = s := by omega
      exact HQ _ _ (.inl ⟨rfl, _, _, _, i, w, g, by rw [← hie]; exact hw, rfl⟩)
    have c' : (i : Int) < k.shift := of_decide_eq_true c
    obtain ⟨t, ht⟩ : ∃ t, t = w.tmod 2 := ⟨_, rfl⟩
    refine st_intro (n := t) ht.symm ?_
    refine br_intro (fun c2 => ?_) (fun c2 => ?_)
    · have c2 : t ≠ 0 := by simpa using c2
      exact HQ _ _ (.inr ⟨rfl, odd_low hw (ht ▸ c2) (by omega), _, _, rfl⟩)
    have c2 : t = 0 := by simpa using c2
    obtain ⟨u, hu⟩ : ∃ u, w = 2 * u := Int.dvd_of_tmod_eq_zero (ht.symm.trans c2)
    refine st_intro (n := u) (by rw [hu, Int.mul_tdiv_cancel_left _ (by decide), IntKind.wrap_i64]; omega) ?_
    obtain ⟨g2, hg2⟩ : ∃ g2, g2 = IntKind.i64.wrap (g * 2) := ⟨_, rfl⟩
    refine st_intro (n := g2) hg2.symm ?_
    refine st_intro (n := ((i + 1 : Nat) : Int)) (nat_in (n := i + 1) (by omega)) ?_
    conv => whnf
    exact ⟨⟨(i + 1, u, g2), (show i + 1 ≤ s by omega), (show v = u * 2 ^ (i + 1) by rw [hw, hu, Int.pow_succ, Int.mul_comm 2 u, Int.mul_assoc, Int.mul_comm 2]), (show -9223372036854775808 ≤ u ∧ u ≤ 9223372036854775807 by omega)⟩, weak_gc [0] rfl ⟨rfl, rfl, rfl, rfl, trivial⟩ ⟨rfl, trivial⟩, by show s - (i + 1) < s - i; omega⟩
  rintro _ _ (⟨rfl, b0, b1, b2, i2, w, g, hw, rfl⟩ | ⟨rfl, hne, env, H, rfl⟩)
  rotate_left 1
  · rw [if_pos hne]
    exact And.intro rfl rfl
  have hp : (0 : Int) < 2 ^ s := Int.pow_pos (by omega)
  have hz : v % 2 ^ s = 0 := by rw [hw, Int.mul_emod_left]
  have hd : v / 2 ^ s = w := by rw [hw, Int.mul_ediv_cancel _ (by omega)]
  rw [if_neg (by omega), hd]
  have hwb := div_in hvb hd.symm
  refine br_intro (fun c6 => ?_) (fun c6 => ?_)
  · have c6 : k.kind = 2 := by simpa using c6
    rw [if_pos c6]
    obtain ⟨h1, h2⟩ : 1 ≤ k.bits ∧ k.bits ≤ 62 := by
      rcases hck with ⟨h, _⟩ | ⟨_, h1, _⟩ | ⟨h, _⟩
      · omega
      · exact h1
      · omega
    obtain ⟨b, hbb⟩ := Int.eq_ofNat_of_zero_le (show 0 ≤ k.bits by omega)
    obtain ⟨a, ha⟩ : ∃ a : Int, a = 2 ^ b := ⟨_, rfl⟩
    have hpb : (0 : Int) < 2 ^ b := Int.pow_pos (by omega)
    have hp2 := powI_le (show b ≤ 62 by omega)
    refine br_intro (fun c7 => ?_) (fun c7 => ?_)
    · have c7 : 0 ≤ w := of_decide_eq_true c7
      rw [hbb, fitsU_eq (by omega) (by omega) c7]
      refine st_intro (n := k.bits) (by rw [IntKind.wrap_u64]; omega) ?_
      refine ck_intro (decide_eq_true (by omega)) ?_
      refine st_intro (n := a) (shlU hbb (by omega) ha) ?_
      refine st_intro (n := a - 1) (i64_in _ (by omega)) ?_
      refine And.intro (congrArg (fun b => some (T.bool b)) ?_) rfl
      rw [← ha]
      exact decide_eq_decide.2 (by omega)
    · have c7 : ¬ 0 ≤ w := of_decide_eq_false c7
      rw [show fitsU w k.bits = false from decide_eq_false (fun hh => c7 hh.2.1)]
      exact And.intro rfl rfl
  have c6 : k.kind ≠ 2 := by simpa using c6
  rw [if_neg c6]
  obtain ⟨h1, h2⟩ : 1 ≤ k.bits ∧ k.bits ≤ 64 := by
    rcases hck with ⟨h, _⟩ | ⟨h, _⟩ | ⟨_, h1, _⟩
    · omega
    · omega
    · exact h1
  refine br_intro (fun c7 => ?_) (fun c7 => ?_)
  · have c7 : k.bits = 64 := by simpa using c7
    rw [show fitsS w k.bits = true from decide_eq_true ⟨h1, .inl (by omega)⟩]
    exact And.intro rfl rfl
  have c7 : k.bits ≠ 64 := by simpa using c7
  obtain ⟨q, hqb⟩ := Int.eq_ofNat_of_zero_le (show 0 ≤ k.bits - 1 by omega)
  obtain ⟨e, he⟩ : ∃ e : Int, e = k.bits - 1 := ⟨_, rfl⟩
  obtain ⟨a, ha⟩ : ∃ a : Int, a = 2 ^ q := ⟨_, rfl⟩
  have hpq : (0 : Int) < 2 ^ q := Int.pow_pos (by omega)
  have hp2 := powI_le (show q ≤ 62 by omega)
  rw [fitsS_eq hwb hqb (by omega) ha]
  refine st_intro (n := e) (by rw [he]; exact i64_in _ (by omega)) ?_
  refine st_intro (n := e) (by rw [IntKind.wrap_u64]; omega) ?_
  refine ck_intro (decide_eq_true (by omega)) ?_
  refine st_intro (n := a) (shlU (he.trans hqb) (by omega) ha) ?_
  refine st_intro (n := -a) (by rw [Int.zero_sub]; exact i64_in _ (by omega)) ?_
  refine br_intro (fun c8 => ?_) (fun c8 => ?_)
  · have c8 : -a ≤ w := of_decide_eq_true c8
    refine st_intro (n := e) (by rw [he]; exact i64_in _ (by omega)) ?_
    refine st_intro (n := e) (by rw [IntKind.wrap_u64]; omega) ?_
    refine ck_intro (decide_eq_true (by omega)) ?_
    refine st_intro (n := a) (shlU (he.trans hqb) (by omega) ha) ?_
    refine st_intro (n := a - 1) (i64_in _ (by omega)) ?_
    refine And.intro (congrArg (fun b => some (T.bool b)) ?_) rfl
    exact decide_eq_decide.2 (by omega)
  · have c8 : ¬ -a ≤ w := of_decide_eq_false c8
    rw [show decide (-a ≤ w ∧ w ≤ a - 1) = false from decide_eq_false (fun hh => c8 hh.1)]
    exact And.intro rfl rfl

end Go.Proofs.YtnjmeadmkbkikaaGreatDoor
