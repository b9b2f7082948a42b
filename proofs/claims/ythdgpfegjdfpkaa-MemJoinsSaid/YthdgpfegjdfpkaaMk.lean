/-
  A number is there just if its bytes are, and is what they make: the law.
-/
import Derived.Test.YthdgpfegjdfpkaaMz
namespace Go.Proofs.Ythdgpfegjdfpkaa
open Go.IntWalk
set_option maxRecDepth 100000
set_option linter.unusedVariables false
set_option linter.unusedSimpArgs false
set_option maxHeartbeats 2000000

/-- Is the byte so far behind an address there? Its value. -/
def goodB (β : Nat → Option UInt8) (a p : Nat) : Bool := !decide ((a + p) % 18446744073709551616 < a) && (β ((a + p) % 18446744073709551616)).isSome
def byteN (β : Nat → Option UInt8) (a p : Nat) : Nat := match β ((a + p) % 18446744073709551616) with | some v => v.toNat | none => 0
/-- The number that bytes make, from a place on. -/
def wantN (β : Nat → Option UInt8) (a : Nat) : Nat → Nat → Nat
  | 0, _ => 0
  | c + 1, s => byteN β a s + 256 * wantN β a c (s + 1)

theorem byteN_lt (β : Nat → Option UInt8) (a p : Nat) : byteN β a p < 256 := by
  unfold byteN
  split
  · rename_i v _; exact v.toNat_lt
  · omega
theorem wantN_lt (β : Nat → Option UInt8) (a : Nat) : ∀ c s, wantN β a c s < 256 ^ c
  | 0, _ => by simp [wantN]
  | c + 1, s => by
    have h1 := byteN_lt β a s
    have h2 := wantN_lt β a c (s + 1)
    simp only [wantN, Nat.pow_succ]
    omega

theorem runB_iff (β : Nat → Option UInt8) (a : Nat) : ∀ c s, ((runB β a c s).length = c ↔ ∀ p, s ≤ p → p < s + c → goodB β a p = true) ∧ ((runB β a c s).length = c → le (runB β a c s) = wantN β a c s)
  | 0, s => ⟨⟨fun _ p h1 h2 => by omega, fun _ => rfl⟩, fun _ => rfl⟩
  | c + 1, s => by
    obtain ⟨ih1, ih2⟩ := runB_iff β a c (s + 1)
    by_cases h1 : (a + s) % 18446744073709551616 < a
    · have hr : runB β a (c + 1) s = [] := by rw [runB, if_pos h1]
      have hg : goodB β a s = false := by simp [goodB, h1]
      rw [hr]
      exact ⟨⟨fun h => by simp at h, fun h => by have := h s (Nat.le_refl _) (by omega); rw [hg] at this; cases this⟩, fun h => by simp at h⟩
    · cases hv : β ((a + s) % 18446744073709551616) with
      | none =>
        have hr : runB β a (c + 1) s = [] := by rw [runB, if_neg h1, hv]
        have hg : goodB β a s = false := by simp [goodB, hv]
        rw [hr]
        exact ⟨⟨fun h => by simp at h, fun h => by have := h s (Nat.le_refl _) (by omega); rw [hg] at this; cases this⟩, fun h => by simp at h⟩
      | some v =>
        have hr : runB β a (c + 1) s = v :: runB β a c (s + 1) := by rw [runB, if_neg h1, hv]
        have hg : goodB β a s = true := by simp [goodB, h1, hv]
        have hb : byteN β a s = v.toNat := by simp [byteN, hv]
        rw [hr]
        simp only [List.length_cons, Nat.add_right_cancel_iff, le, wantN, hb]
        refine ⟨⟨fun h p h2 h3 => ?_, fun h => ih1.2 fun p h2 h3 => h p (by omega) (by omega)⟩, fun h => by rw [ih2 h]⟩
        by_cases hp : p = s
        · rw [hp]; exact hg
        · exact ih1.1 h p (by omega) (by omega)

theorem run_one {β : Nat → Option UInt8} {x : Nat} (hx : x < 18446744073709551616) : runB β x 1 0 = match β x with | some v => [v] | none => [] := by
  rw [runB, Nat.add_zero, Nat.mod_eq_of_lt hx, if_neg (by omega)]
  cases β x <;> rfl

/-- One byte, read as a number. -/
theorem load_one (R : List RegD) (x : Nat) (hl : R.length ≤ 1000000) (hR : ∀ r ∈ R, Fine r) (hx : x < 18446744073709551616) (β : Nat → Option UInt8) (hβ : β = fun x => byteV R x 4) :
    Runs Try.prog LD [memT R, .int .u64 x, .int .i64 1] (.tup [.t (.int .u64 ((match β x with | some v => v.toNat | none => 0 : Nat) : Int)), .t (.bool (β x).isSome)]) := by
  have h1 := run_one (β := β) hx
  cases hv : β x with
  | none =>
    rw [hv] at h1
    exact load_short R x 1 hl hR hx (by omega) [] (by rw [← hβ, h1]) (by simp)
  | some v =>
    rw [hv] at h1
    have := load_full R x 1 hl hR hx (by omega) [v] (by rw [← hβ, h1]) rfl
    exact this

theorem joins_out (rs : List RegD) (hok : ∀ r ∈ rs, r.ok) (hl : rs.length ≤ 3518437208883) (a : Nat) (n : Int) (hn : ¬ (1 ≤ n ∧ n ≤ 8)) :
    Runs Try.prog 4 [.vecd 3 (rs.map regT), .int .u64 a, .int .i64 n] (.t (.bool true)) := by
  refine Runs.of_call ?_ rfl
  refine CallS.of_fn tabS_ok regS_ok Try.func4 rfl rfl ?_
  refine CallS.pure alive_runs rfl ?_
  refine CallS.pure (copy_runs rs hok hl) rfl ?_
  refine CallS.pureX (new_runs rs hok hl) rfl ?_
  rintro _ (⟨e, he, rfl⟩ | ⟨R, hR1, hR2, rfl⟩)
  · refine br_intro (fun c => ?_) (fun c => absurd c (by simp [he]))
    exact And.intro rfl rfl
  · refine CallS.pure (load_no R a n hn) rfl ?_
    refine br_intro (fun c => ?_) (fun c => ?_)
    · exact And.intro rfl rfl
    refine br_intro (fun c2 => ?_) (fun c2 => ?_)
    · exact And.intro rfl rfl
    · have c := of_decide_eq_false c
      have c2 : ¬ n > 8 := by simpa using c2
      omega

theorem shl8 {w w1 : Nat} (h : w1 = 256 * w) (hw : w < 256 ^ 7) : IntKind.u64.wrap ((w : Int) * 2 ^ (min (Int.toNat 8) IntKind.u64.bits)) = ((w1 : Nat) : Int) := by
  rw [show ((2 : Int) ^ (min (Int.toNat 8) IntKind.u64.bits)) = 256 from rfl, IntKind.wrap_u64, h]
  omega

theorem joins_in (rs : List RegD) (hok : ∀ r ∈ rs, r.ok) (hl : rs.length ≤ 3518437208883) (a n : Nat) (ha : a < 18446744073709551616) (hn : 1 ≤ n ∧ n ≤ 8) :
    Runs Try.prog 4 [.vecd 3 (rs.map regT), .int .u64 a, .int .i64 n] (.t (.bool true)) := by
  refine Runs.of_call ?_ rfl
  refine CallS.of_fn tabS_ok regS_ok Try.func4 rfl rfl ?_
  refine CallS.pure alive_runs rfl ?_
  refine CallS.pure (copy_runs rs hok hl) rfl ?_
  refine CallS.pureX (new_runs rs hok hl) rfl ?_
  rintro _ (⟨e, he, rfl⟩ | ⟨R, hR1, hR, rfl⟩)
  · refine br_intro (fun c => ?_) (fun c => absurd c (by simp [he]))
    exact And.intro rfl rfl
  have hRl : R.length ≤ 1000000 := by omega
  obtain ⟨β, hβ⟩ : ∃ β, β = fun x => byteV R x 4 := ⟨_, rfl⟩
  by_cases hL : (runB β a n 0).length = n
  · have hload := load_full R a n hRl hR ha hn (runB β a n 0) (by rw [hβ]) hL
    have hH := holds_runs R a n hRl hR ha hn (runB β a n 0) (by rw [hβ]) true (by simp [hL])
    obtain ⟨V, hV⟩ : ∃ V, V = le (runB β a n 0) := ⟨_, rfl⟩
    rw [← hV] at hload
    refine CallS.pure hload rfl ?_
    refine br_intro (fun c => absurd (of_decide_eq_true c) (by omega)) (fun c => ?_)
    refine br_intro (fun c => absurd (of_decide_eq_true (show decide ((n : Int) > 8) = true from c)) (by omega)) (fun c => ?_)
    refine st_intro (n := (n : Int) - 1) (by rw [IntKind.wrap_i64]; omega) ?_
    refine loop_on (fun s : Nat × Bool × Nat => s.1 ≤ n ∧ (s.2.1 = true ↔ ∀ p, s.1 ≤ p → p < n → goodB β a p = true) ∧ s.2.2 = wantN β a (n - s.1) s.1) (fun s => ⟨[(1, .t (.int .u64 a)), (2, .t (.int .i64 n)), (7, .t (memT R)), (9, .t (.int .u64 V)), (10, .t (.bool true)), (11, .t (.bool s.2.1)), (12, .t (.int .u64 s.2.2)), (13, .t (.int .i64 ((s.1 : Int) - 1)))], []⟩)
      (fun s => s.1) (n, true, 0) ⟨Nat.le_refl _, ⟨fun _ p h1 h2 => by have h1 : n ≤ p := h1; omega, fun _ => rfl⟩, by show 0 = wantN β a (n - n) n; rw [Nat.sub_self]; rfl⟩ ?_ (fun ⟨j, al, wn⟩ hi => ?_)
    · exact weak_of ⟨rfl, rfl, rfl, rfl, rfl, rfl, rfl, rfl, trivial⟩ rfl
    have hi : j ≤ n ∧ (al = true ↔ ∀ p, j ≤ p → p < n → goodB β a p = true) ∧ wn = wantN β a (n - j) j := hi
    obtain ⟨hj, hal, hwn⟩ := hi
    refine br_intro (fun c => ?_) (fun c => ?_)
    · have c : 1 ≤ j := by have : (j : Int) - 1 ≥ 0 := of_decide_eq_true c
                           omega
      obtain ⟨k, hk⟩ : ∃ k, k = j - 1 := ⟨_, rfl⟩
      obtain ⟨x, hx⟩ : ∃ x, x = (a + k) % 18446744073709551616 := ⟨_, rfl⟩
      have hx2 : x < 18446744073709551616 := by rw [hx]; exact Nat.mod_lt _ (by decide)
      have h1 := load_one R x hRl hR hx2 β hβ
      obtain ⟨b, hb⟩ : ∃ b : Nat, b = (match β x with | some v => v.toNat | none => 0) := ⟨_, rfl⟩
      obtain ⟨th, hth⟩ : ∃ th : Bool, th = (β x).isSome := ⟨_, rfl⟩
      rw [← hb, ← hth] at h1
      have hbN : byteN β a k = b := by rw [hb, byteN, ← hx]
      have hgood : goodB β a k = (!decide (x < a) && th) := by rw [goodB, ← hx, hth]
      have hb256 : b < 256 := by rw [← hbN]; exact byteN_lt β a k
      have hwl := wantN_lt β a (n - j) j
      rw [← hwn] at hwl
      have hpw : 256 ^ (n - j) ≤ 256 ^ 7 := Nat.pow_le_pow_right (by omega) (by omega)
      have hwlt : wn < 256 ^ 7 := by omega
      have hwn2 : b + 256 * wn = wantN β a (n - k) k := by rw [show n - k = (n - j) + 1 by omega, wantN, hbN, hwn, show k + 1 = j by omega]
      obtain ⟨w1, hw1⟩ : ∃ w1, w1 = 256 * wn := ⟨_, rfl⟩
      obtain ⟨w2, hw2⟩ : ∃ w2, w2 = b + 256 * wn := ⟨_, rfl⟩
      have step : ∀ al2 : Bool, (al2 = true ↔ al = true ∧ goodB β a k = true) → (al2 = true ↔ ∀ p, k ≤ p → p < n → goodB β a p = true) := fun al2 h => by
        rw [h, hal]
        exact ⟨fun ⟨h1, h2⟩ p h3 h4 => by
          by_cases hp : p = k
          · rw [hp]; exact h2
          · exact h1 p (by omega) h4, fun h1 => ⟨fun p h3 h4 => h1 p (by omega) h4, h1 k (Nat.le_refl _) (by omega)⟩⟩
      refine st_intro (n := ((k : Nat) : Int)) (by rw [IntKind.wrap_u64]; omega) ?_
      refine st_intro (n := ((x : Nat) : Int)) (by rw [IntKind.wrap_u64, hx]; omega) ?_
      refine CallS.pure h1 rfl ?_
      have fin : ∀ al2 : Bool, (al2 = true ↔ al = true ∧ goodB β a k = true) → k ≤ n ∧ (al2 = true ↔ ∀ p, k ≤ p → p < n → goodB β a p = true) ∧ w2 = wantN β a (n - k) k := fun al2 h => ⟨by omega, step al2 h, by rw [hw2, hwn2]⟩
      refine br_intro (fun ca => ?_) (fun ca => ?_)
      · refine br_intro (fun ct => ?_) (fun ct => ?_)
        · have ct : th = true := ct
          refine st_intro (n := ((w1 : Nat) : Int)) (shl8 hw1 hwlt) ?_
          refine st_intro (n := ((w2 : Nat) : Int)) (by rw [IntKind.wrap_u64, hw2, hw1]; omega) ?_
          refine st_intro (n := (k : Int) - 1) (by rw [IntKind.wrap_i64]; omega) ?_
          conv => whnf
          exact ⟨⟨(k, decide ((x : Int) ≥ (a : Int)), w2), fin _ ⟨fun h => ⟨ca, by have h := of_decide_eq_true h; rw [hgood, ct]; simp; omega⟩, fun ⟨_, h⟩ => decide_eq_true (by rw [hgood, ct] at h; simp at h; omega)⟩⟩, weak_of ⟨rfl, rfl, rfl, rfl, rfl, rfl, rfl, rfl, trivial⟩ rfl, by show k < j; omega⟩
        · have ct : th = false := ct
          refine st_intro (n := ((w1 : Nat) : Int)) (shl8 hw1 hwlt) ?_
          refine st_intro (n := ((w2 : Nat) : Int)) (by rw [IntKind.wrap_u64, hw2, hw1]; omega) ?_
          refine st_intro (n := (k : Int) - 1) (by rw [IntKind.wrap_i64]; omega) ?_
          conv => whnf
          exact ⟨⟨(k, false, w2), fin _ ⟨fun h => (by cases h), fun ⟨_, h⟩ => by rw [hgood, ct] at h; simp at h⟩⟩, weak_of ⟨rfl, rfl, rfl, rfl, rfl, rfl, rfl, rfl, trivial⟩ rfl, by show k < j; omega⟩
      · refine st_intro (n := ((w1 : Nat) : Int)) (shl8 hw1 hwlt) ?_
        refine st_intro (n := ((w2 : Nat) : Int)) (by rw [IntKind.wrap_u64, hw2, hw1]; omega) ?_
        refine st_intro (n := (k : Int) - 1) (by rw [IntKind.wrap_i64]; omega) ?_
        conv => whnf
        exact ⟨⟨(k, false, w2), fin _ ⟨fun h => (by cases h), fun ⟨h, _⟩ => by have ca : al = false := ca; rw [ca] at h; cases h⟩⟩, weak_of ⟨rfl, rfl, rfl, rfl, rfl, rfl, rfl, rfl, trivial⟩ rfl, by show k < j; omega⟩
    · have c : j = 0 := by have : ¬ (j : Int) - 1 ≥ 0 := of_decide_eq_false c
                           omega
      have hall : al = true ↔ ∀ p, 0 ≤ p → p < 0 + n → goodB β a p = true := by rw [hal, c, Nat.zero_add]
      have hrun := runB_iff β a n 0
      have e1 : al = true := hall.2 (hrun.1.1 hL)
      have e2 : V = wn := by rw [hV, hrun.2 hL, hwn, c, Nat.sub_zero]
      refine br_intro (fun q => ?_) (fun q => absurd (show (true == al) = false from q) (by rw [e1]; decide))
      refine br_intro (fun q2 => ?_) (fun q2 => absurd (show ((V : Int) == (wn : Int)) = false from q2) (by rw [e2]; simp))
      refine CallS.pure hH rfl ?_
      exact And.intro rfl rfl
  · have hload := load_short R a n hRl hR ha hn (runB β a n 0) (by rw [hβ]) hL
    have hH := holds_runs R a n hRl hR ha hn (runB β a n 0) (by rw [hβ]) false (by simp [hL])
    refine CallS.pure hload rfl ?_
    refine br_intro (fun c => absurd (of_decide_eq_true c) (by omega)) (fun c => ?_)
    refine br_intro (fun c => absurd (of_decide_eq_true (show decide ((n : Int) > 8) = true from c)) (by omega)) (fun c => ?_)
    refine st_intro (n := (n : Int) - 1) (by rw [IntKind.wrap_i64]; omega) ?_
    refine loop_on (fun s : Nat × Bool × Nat => s.1 ≤ n ∧ (s.2.1 = true ↔ ∀ p, s.1 ≤ p → p < n → goodB β a p = true) ∧ s.2.2 = wantN β a (n - s.1) s.1) (fun s => ⟨[(1, .t (.int .u64 a)), (2, .t (.int .i64 n)), (7, .t (memT R)), (9, .t (.int .u64 0)), (10, .t (.bool false)), (11, .t (.bool s.2.1)), (12, .t (.int .u64 s.2.2)), (13, .t (.int .i64 ((s.1 : Int) - 1)))], []⟩)
      (fun s => s.1) (n, true, 0) ⟨Nat.le_refl _, ⟨fun _ p h1 h2 => by have h1 : n ≤ p := h1; omega, fun _ => rfl⟩, by show 0 = wantN β a (n - n) n; rw [Nat.sub_self]; rfl⟩ ?_ (fun ⟨j, al, wn⟩ hi => ?_)
    · exact weak_of ⟨rfl, rfl, rfl, rfl, rfl, rfl, rfl, rfl, trivial⟩ rfl
    have hi : j ≤ n ∧ (al = true ↔ ∀ p, j ≤ p → p < n → goodB β a p = true) ∧ wn = wantN β a (n - j) j := hi
    obtain ⟨hj, hal, hwn⟩ := hi
    refine br_intro (fun c => ?_) (fun c => ?_)
    · have c : 1 ≤ j := by have : (j : Int) - 1 ≥ 0 := of_decide_eq_true c
                           omega
      obtain ⟨k, hk⟩ : ∃ k, k = j - 1 := ⟨_, rfl⟩
      obtain ⟨x, hx⟩ : ∃ x, x = (a + k) % 18446744073709551616 := ⟨_, rfl⟩
      have hx2 : x < 18446744073709551616 := by rw [hx]; exact Nat.mod_lt _ (by decide)
      have h1 := load_one R x hRl hR hx2 β hβ
      obtain ⟨b, hb⟩ : ∃ b : Nat, b = (match β x with | some v => v.toNat | none => 0) := ⟨_, rfl⟩
      obtain ⟨th, hth⟩ : ∃ th : Bool, th = (β x).isSome := ⟨_, rfl⟩
      rw [← hb, ← hth] at h1
      have hbN : byteN β a k = b := by rw [hb, byteN, ← hx]
      have hgood : goodB β a k = (!decide (x < a) && th) := by rw [goodB, ← hx, hth]
      have hb256 : b < 256 := by rw [← hbN]; exact byteN_lt β a k
      have hwl := wantN_lt β a (n - j) j
      rw [← hwn] at hwl
      have hpw : 256 ^ (n - j) ≤ 256 ^ 7 := Nat.pow_le_pow_right (by omega) (by omega)
      have hwlt : wn < 256 ^ 7 := by omega
      have hwn2 : b + 256 * wn = wantN β a (n - k) k := by rw [show n - k = (n - j) + 1 by omega, wantN, hbN, hwn, show k + 1 = j by omega]
      obtain ⟨w1, hw1⟩ : ∃ w1, w1 = 256 * wn := ⟨_, rfl⟩
      obtain ⟨w2, hw2⟩ : ∃ w2, w2 = b + 256 * wn := ⟨_, rfl⟩
      have step : ∀ al2 : Bool, (al2 = true ↔ al = true ∧ goodB β a k = true) → (al2 = true ↔ ∀ p, k ≤ p → p < n → goodB β a p = true) := fun al2 h => by
        rw [h, hal]
        exact ⟨fun ⟨h1, h2⟩ p h3 h4 => by
          by_cases hp : p = k
          · rw [hp]; exact h2
          · exact h1 p (by omega) h4, fun h1 => ⟨fun p h3 h4 => h1 p (by omega) h4, h1 k (Nat.le_refl _) (by omega)⟩⟩
      refine st_intro (n := ((k : Nat) : Int)) (by rw [IntKind.wrap_u64]; omega) ?_
      refine st_intro (n := ((x : Nat) : Int)) (by rw [IntKind.wrap_u64, hx]; omega) ?_
      refine CallS.pure h1 rfl ?_
      have fin : ∀ al2 : Bool, (al2 = true ↔ al = true ∧ goodB β a k = true) → k ≤ n ∧ (al2 = true ↔ ∀ p, k ≤ p → p < n → goodB β a p = true) ∧ w2 = wantN β a (n - k) k := fun al2 h => ⟨by omega, step al2 h, by rw [hw2, hwn2]⟩
      refine br_intro (fun ca => ?_) (fun ca => ?_)
      · refine br_intro (fun ct => ?_) (fun ct => ?_)
        · have ct : th = true := ct
          refine st_intro (n := ((w1 : Nat) : Int)) (shl8 hw1 hwlt) ?_
          refine st_intro (n := ((w2 : Nat) : Int)) (by rw [IntKind.wrap_u64, hw2, hw1]; omega) ?_
          refine st_intro (n := (k : Int) - 1) (by rw [IntKind.wrap_i64]; omega) ?_
          conv => whnf
          exact ⟨⟨(k, decide ((x : Int) ≥ (a : Int)), w2), fin _ ⟨fun h => ⟨ca, by have h := of_decide_eq_true h; rw [hgood, ct]; simp; omega⟩, fun ⟨_, h⟩ => decide_eq_true (by rw [hgood, ct] at h; simp at h; omega)⟩⟩, weak_of ⟨rfl, rfl, rfl, rfl, rfl, rfl, rfl, rfl, trivial⟩ rfl, by show k < j; omega⟩
        · have ct : th = false := ct
          refine st_intro (n := ((w1 : Nat) : Int)) (shl8 hw1 hwlt) ?_
          refine st_intro (n := ((w2 : Nat) : Int)) (by rw [IntKind.wrap_u64, hw2, hw1]; omega) ?_
          refine st_intro (n := (k : Int) - 1) (by rw [IntKind.wrap_i64]; omega) ?_
          conv => whnf
          exact ⟨⟨(k, false, w2), fin _ ⟨fun h => (by cases h), fun ⟨_, h⟩ => by rw [hgood, ct] at h; simp at h⟩⟩, weak_of ⟨rfl, rfl, rfl, rfl, rfl, rfl, rfl, rfl, trivial⟩ rfl, by show k < j; omega⟩
      · refine st_intro (n := ((w1 : Nat) : Int)) (shl8 hw1 hwlt) ?_
        refine st_intro (n := ((w2 : Nat) : Int)) (by rw [IntKind.wrap_u64, hw2, hw1]; omega) ?_
        refine st_intro (n := (k : Int) - 1) (by rw [IntKind.wrap_i64]; omega) ?_
        conv => whnf
        exact ⟨⟨(k, false, w2), fin _ ⟨fun h => (by cases h), fun ⟨h, _⟩ => by have ca : al = false := ca; rw [ca] at h; cases h⟩⟩, weak_of ⟨rfl, rfl, rfl, rfl, rfl, rfl, rfl, rfl, trivial⟩ rfl, by show k < j; omega⟩
    · have c : j = 0 := by have : ¬ (j : Int) - 1 ≥ 0 := of_decide_eq_false c
                           omega
      have hall : al = true ↔ ∀ p, 0 ≤ p → p < 0 + n → goodB β a p = true := by rw [hal, c, Nat.zero_add]
      have hrun := runB_iff β a n 0
      have e1 : al = false := by
        cases h : al with
        | false => rfl
        | true => exact absurd (hrun.1.2 (hall.1 h)) hL
      refine br_intro (fun q => ?_) (fun q => absurd (show (false == al) = false from q) (by rw [e1]; decide))
      refine CallS.pure hH rfl ?_
      exact And.intro rfl rfl

theorem joinsLaw (c0 : List T) (h0 : HasT Try.prog 22 c0) (c1 : List T) (h1 : HasT Try.prog 23 c1) (c2 : List T) (h2 : HasT Try.prog 3 c2) :
    Runs Try.prog 4 [argOf Try.prog 22 c0, argOf Try.prog 23 c1, argOf Try.prog 3 c2] (.t (.bool true)) := by
  obtain ⟨rs, hl, hok, hs⟩ := regs_arg h0
  obtain ⟨a0, rfl, wa⟩ := h1.int' Try.underlying23
  obtain ⟨n, rfl, wn⟩ := h2.int' Try.underlying3
  simp only [Lit.wf, Bool.and_eq_true, decide_eq_true_eq] at wa
  have wa : 0 ≤ a0 ∧ a0 ≤ 18446744073709551615 := wa
  obtain ⟨a, rfl⟩ : ∃ a : Nat, a0 = a := ⟨a0.toNat, by omega⟩
  have key : Runs Try.prog 4 [.vecd 3 (rs.map regT), .int .u64 a, .int .i64 n] (.t (.bool true)) := by
    by_cases hn : 1 ≤ n ∧ n ≤ 8
    · obtain ⟨m, rfl⟩ : ∃ m : Nat, n = m := ⟨n.toNat, by omega⟩
      exact joins_in rs hok hl a m (by omega) (by omega)
    · exact joins_out rs hok hl a n hn
  exact key.sub ⟨hs, .refl _, .refl _, trivial⟩

end Go.Proofs.Ythdgpfegjdfpkaa
