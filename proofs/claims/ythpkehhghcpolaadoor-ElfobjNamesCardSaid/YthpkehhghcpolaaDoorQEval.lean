/-
  The same engine, made for speed: integers, strings, lists as the kernel likes them; each is what the first engine reckons.
-/
import Derived.Test.YthpkehhghcpolaaDoorNCode
namespace Go.Proofs.YthpkehhghcpolaaDoor
open Go.RowKit
set_option linter.unusedVariables false
set_option linter.unusedSimpArgs false

section
variable {R : Type}

/-! ### Views of values -/

noncomputable def tInt : T → (IntKind → Int → Option R) → Option R → Option R :=
  @T.rec (fun _ => (IntKind → Int → Option R) → Option R → Option R) (fun _ => Unit)
    (fun _ _ d => d) (fun k n K _ => K k n) (fun _ _ d => d) (fun _ d => d) (fun _ d => d) (fun _ d => d) (fun _ d => d) (fun _ _ _ d => d) (fun _ _ _ _ d => d) (fun _ _ _ d => d)
    (fun _ _ _ _ _ _ d => d) (fun _ _ _ _ d => d) () (fun _ _ _ _ => ())

noncomputable def aInt : AV → (IntKind → Int → Option R) → Option R → Option R :=
  @AV.rec (fun _ => (IntKind → Int → Option R) → Option R → Option R) (fun _ => Unit)
    tInt (fun _ _ _ _ _ d => d) (fun _ _ _ _ _ d => d) (fun _ _ _ d => d) (fun _ _ _ d => d) (fun _ _ _ _ _ _ d => d) (fun _ _ _ _ d => d) (fun _ _ _ _ _ d => d) (fun _ d => d) (fun _ d => d) () (fun _ _ _ _ => ())

theorem aInt_int (k : IntKind) (n : Int) (K : IntKind → Int → Option R) (d : Option R) : aInt (.t (.int k n)) K d = K k n := rfl
theorem aInt_cases (x : AV) (K : IntKind → Int → Option R) (d : Option R) : (∃ k n, x = .t (.int k n) ∧ aInt x K d = K k n) ∨ ((∀ k n, x ≠ .t (.int k n)) ∧ aInt x K d = d) := by
  cases x with
  | t y => cases y <;> first | exact .inl ⟨_, _, rfl, rfl⟩ | exact .inr ⟨by simp, rfl⟩
  | _ => exact .inr ⟨by simp, rfl⟩

noncomputable def tStr : T → (List UInt8 → Option R) → Option R → Option R :=
  @T.rec (fun _ => (List UInt8 → Option R) → Option R → Option R) (fun _ => Unit)
    (fun _ _ d => d) (fun _ _ _ d => d) (fun s K _ => K s) (fun _ d => d) (fun _ d => d) (fun _ d => d) (fun _ d => d) (fun _ _ _ d => d) (fun _ _ _ _ d => d) (fun _ _ _ d => d)
    (fun _ _ _ _ _ _ d => d) (fun _ _ _ _ d => d) () (fun _ _ _ _ => ())

noncomputable def aStr : AV → (List UInt8 → Option R) → Option R → Option R :=
  @AV.rec (fun _ => (List UInt8 → Option R) → Option R → Option R) (fun _ => Unit)
    tStr (fun _ _ _ _ _ d => d) (fun _ _ _ _ _ d => d) (fun _ _ _ d => d) (fun _ _ _ d => d) (fun _ _ _ _ _ _ d => d) (fun _ _ _ _ d => d) (fun _ _ _ _ _ d => d) (fun _ d => d) (fun _ d => d) () (fun _ _ _ _ => ())

theorem aStr_cases (x : AV) (K : List UInt8 → Option R) (d : Option R) : (∃ s, x = .t (.str s) ∧ aStr x K d = K s) ∨ ((∀ s, x ≠ .t (.str s)) ∧ aStr x K d = d) := by
  cases x with
  | t y => cases y <;> first | exact .inl ⟨_, rfl, rfl⟩ | exact .inr ⟨by simp, rfl⟩
  | _ => exact .inr ⟨by simp, rfl⟩

noncomputable def tBool : T → (Bool → Option R) → Option R → Option R :=
  @T.rec (fun _ => (Bool → Option R) → Option R → Option R) (fun _ => Unit)
    (fun b K _ => K b) (fun _ _ _ d => d) (fun _ _ d => d) (fun _ d => d) (fun _ d => d) (fun _ d => d) (fun _ d => d) (fun _ _ _ d => d) (fun _ _ _ _ d => d) (fun _ _ _ d => d)
    (fun _ _ _ _ _ _ d => d) (fun _ _ _ _ d => d) () (fun _ _ _ _ => ())

noncomputable def aBool : AV → (Bool → Option R) → Option R → Option R :=
  @AV.rec (fun _ => (Bool → Option R) → Option R → Option R) (fun _ => Unit)
    tBool (fun _ _ _ _ _ d => d) (fun _ _ _ _ _ d => d) (fun _ _ _ d => d) (fun _ _ _ d => d) (fun _ _ _ _ _ _ d => d) (fun _ _ _ _ d => d) (fun _ _ _ _ _ d => d) (fun _ d => d) (fun _ d => d) () (fun _ _ _ _ => ())

theorem aBool_cases (x : AV) (K : Bool → Option R) (d : Option R) : (∃ b, x = .t (.bool b) ∧ aBool x K d = K b) ∨ ((∀ b, x ≠ .t (.bool b)) ∧ aBool x K d = d) := by
  cases x with
  | t y => cases y <;> first | exact .inl ⟨_, rfl, rfl⟩ | exact .inr ⟨by simp, rfl⟩
  | _ => exact .inr ⟨by simp, rfl⟩

/-! ### Integers -/

noncomputable def qnn {α : Type} (a b : Int) (F : Nat → Nat → α) (d : α) : α :=
  @Int.rec (fun _ => Int → (Nat → Nat → α) → α → α) (fun m b F d => @Int.rec (fun _ => Nat → (Nat → Nat → α) → α → α) (fun n m F _ => F m n) (fun _ _ _ d => d) b m F d) (fun _ _ _ d => d) a b F d

theorem qnn_eq {α : Type} {a b : Int} {F : Nat → Nat → α} {d : α} (h : ∀ m n : Nat, a = m → b = n → F m n = d) : qnn a b F d = d := by
  cases a with
  | ofNat m =>
    cases b with
    | ofNat n => exact h m n rfl rfl
    | negSucc n => rfl
  | negSucc m => rfl

noncomputable def kmax : IntKind → Nat :=
  @IntKind.rec (fun _ => Nat) 127 32767 2147483647 9223372036854775807 255 65535 4294967295 18446744073709551615

noncomputable def kbits : IntKind → Nat := @IntKind.rec (fun _ => Nat) 8 16 32 64 8 16 32 64

theorem kbits_eq (k : IntKind) : kbits k = k.bits := by cases k <;> rfl

theorem wrap_small {k : IntKind} {r : Nat} (h : r ≤ kmax k) : k.wrap (r : Int) = r := by
  cases k <;> simp only [kmax] at h <;> simp only [IntKind.wrap, IntKind.bits, IntKind.signed] <;> simp <;> omega

noncomputable def qsm (k : IntKind) (r : Nat) (K : Int → Option R) (d : Option R) : Option R :=
  fN r fun r => @Bool.rec (fun _ => Option R) d (K (.ofNat r)) (Nat.ble r (kmax k))

theorem qsm_eq {k : IntKind} {r : Nat} {K : Int → Option R} {d : Option R} (h : r ≤ kmax k → K r = d) : qsm k r K d = d := by
  unfold qsm
  rw [fN_eq]
  cases hb : Nat.ble r (kmax k) with
  | false => rfl
  | true => exact h (Nat.le_of_ble_eq_true hb)

noncomputable def qadd (k : IntKind) (a b : Int) (K : Int → Option R) : Option R :=
  qnn a b (fun m n => qsm k (Nat.add m n) K (fI (k.wrap (a + b)) K)) (fI (k.wrap (a + b)) K)

theorem qadd_eq (k : IntKind) (a b : Int) (K : Int → Option R) : qadd k a b K = K (k.wrap (a + b)) := by
  unfold qadd
  rw [qnn_eq, fI_eq]
  rintro m n rfl rfl
  rw [qsm_eq]
  intro h
  rw [fI_eq]
  have h : m + n ≤ kmax k := h
  rw [show ((m : Int) + (n : Int)) = ((m + n : Nat) : Int) by simp, wrap_small h]
  rfl

noncomputable def qsub (k : IntKind) (a b : Int) (K : Int → Option R) : Option R :=
  qnn a b (fun m n => @Bool.rec (fun _ => Option R) (fI (k.wrap (a - b)) K) (qsm k (Nat.sub m n) K (fI (k.wrap (a - b)) K)) (Nat.ble n m)) (fI (k.wrap (a - b)) K)

theorem qsub_eq (k : IntKind) (a b : Int) (K : Int → Option R) : qsub k a b K = K (k.wrap (a - b)) := by
  unfold qsub
  rw [qnn_eq, fI_eq]
  rintro m n rfl rfl
  cases hb : Nat.ble n m with
  | false => rfl
  | true =>
    have hle := Nat.le_of_ble_eq_true hb
    show qsm k (m - n) K _ = _
    rw [qsm_eq]
    intro h
    rw [fI_eq]
    rw [show ((m : Int) - (n : Int)) = ((m - n : Nat) : Int) by omega, wrap_small h]

noncomputable def qmul (k : IntKind) (a b : Int) (K : Int → Option R) : Option R :=
  qnn a b (fun m n => qsm k (Nat.mul m n) K (fI (k.wrap (a * b)) K)) (fI (k.wrap (a * b)) K)

theorem qmul_eq (k : IntKind) (a b : Int) (K : Int → Option R) : qmul k a b K = K (k.wrap (a * b)) := by
  unfold qmul
  rw [qnn_eq, fI_eq]
  rintro m n rfl rfl
  rw [qsm_eq]
  intro h
  rw [fI_eq]
  have h : m * n ≤ kmax k := h
  rw [show ((m : Int) * (n : Int)) = ((m * n : Nat) : Int) by simp, wrap_small h]
  rfl

noncomputable def qquo (k : IntKind) (a b : Int) (K : Int → Option R) : Option R :=
  qnn a b (fun m n => qsm k (Nat.div m n) K (fI (k.wrap (a.tdiv b)) K)) (fI (k.wrap (a.tdiv b)) K)

theorem qquo_eq (k : IntKind) (a b : Int) (K : Int → Option R) : qquo k a b K = K (k.wrap (a.tdiv b)) := by
  unfold qquo
  rw [qnn_eq, fI_eq]
  rintro m n rfl rfl
  rw [qsm_eq]
  intro h
  rw [fI_eq]
  have h : m / n ≤ kmax k := h
  rw [show ((m : Int).tdiv (n : Int)) = ((m / n : Nat) : Int) from (Int.ofNat_tdiv m n).symm, wrap_small h]
  rfl

noncomputable def qrem (a b : Int) (K : Int → Option R) : Option R :=
  qnn a b (fun m n => fN (Nat.mod m n) fun r => K (.ofNat r)) (fI (a.tmod b) K)

theorem qrem_eq (a b : Int) (K : Int → Option R) : qrem a b K = K (a.tmod b) := by
  unfold qrem
  rw [qnn_eq, fI_eq]
  rintro m n rfl rfl
  rw [fN_eq, fI_eq]
  exact congrArg K (Int.ofNat_tmod m n)

theorem kmax_pow (k : IntKind) : ∃ j, kmax k + 1 = 2 ^ j ∧ j ≤ k.bits := by
  cases k
  · exact ⟨7, rfl, by decide⟩
  · exact ⟨15, rfl, by decide⟩
  · exact ⟨31, rfl, by decide⟩
  · exact ⟨63, rfl, by decide⟩
  · exact ⟨8, rfl, by decide⟩
  · exact ⟨16, rfl, by decide⟩
  · exact ⟨32, rfl, by decide⟩
  · exact ⟨64, rfl, by decide⟩

theorem ofInt_small {k : IntKind} {m : Nat} (h : m ≤ kmax k) : (BitVec.ofInt k.bits (m : Int)).toNat = m := by
  obtain ⟨j, hj, hl⟩ := kmax_pow k
  have h2 : 2 ^ j ≤ 2 ^ k.bits := Nat.pow_le_pow_right (by omega) hl
  rw [show BitVec.ofInt k.bits (m : Int) = BitVec.ofNat k.bits m from BitVec.ofInt_natCast k.bits m, BitVec.toNat_ofNat]
  exact Nat.mod_eq_of_lt (by omega)

noncomputable def qlog (op : BinOp) (F : Nat → Nat → Nat) (k : IntKind) (a b : Int) (K : Int → Option R) : Option R :=
  qnn a b (fun m n => @Bool.rec (fun _ => Option R) (fI (bitsOp op k a b) K)
    (@Bool.rec (fun _ => Option R) (fI (bitsOp op k a b) K) (fN (F m n) fun r => K (.ofNat r)) (Nat.ble n (kmax k))) (Nat.ble m (kmax k))) (fI (bitsOp op k a b) K)

theorem qlog_eq {op : BinOp} {F : Nat → Nat → Nat} (hF : ∀ {k : IntKind} {m n : Nat}, m ≤ kmax k → n ≤ kmax k → bitsOp op k m n = F m n) (k : IntKind) (a b : Int) (K : Int → Option R) : qlog op F k a b K = K (bitsOp op k a b) := by
  unfold qlog
  rw [qnn_eq, fI_eq]
  rintro m n rfl rfl
  cases hb : Nat.ble m (kmax k) with
  | false => rfl
  | true =>
    cases hc : Nat.ble n (kmax k) with
    | false => rfl
    | true =>
      show fN (F m n) _ = _
      rw [fN_eq, fI_eq, hF (Nat.le_of_ble_eq_true hb) (Nat.le_of_ble_eq_true hc)]
      rfl

theorem land_ok {k : IntKind} {m n : Nat} (h : m ≤ kmax k) (h' : n ≤ kmax k) : bitsOp .and k m n = Nat.land m n := by
  simp only [bitsOp, BitVec.toNat_and, ofInt_small h, ofInt_small h']
  exact wrap_small (Nat.le_trans Nat.and_le_left h)

theorem lor_ok {k : IntKind} {m n : Nat} (h : m ≤ kmax k) (h' : n ≤ kmax k) : bitsOp .or k m n = Nat.lor m n := by
  simp only [bitsOp, BitVec.toNat_or, ofInt_small h, ofInt_small h']
  obtain ⟨j, hj, _⟩ := kmax_pow k
  have := Nat.or_lt_two_pow (x := m) (y := n) (n := j) (by omega) (by omega)
  exact wrap_small (by omega)

theorem xor_ok {k : IntKind} {m n : Nat} (h : m ≤ kmax k) (h' : n ≤ kmax k) : bitsOp .xor k m n = Nat.xor m n := by
  simp only [bitsOp, BitVec.toNat_xor, ofInt_small h, ofInt_small h']
  obtain ⟨j, hj, _⟩ := kmax_pow k
  have := Nat.xor_lt_two_pow (x := m) (y := n) (n := j) (by omega) (by omega)
  exact wrap_small (by omega)

noncomputable def qshl (k : IntKind) (a b : Int) (K : Int → Option R) : Option R :=
  qnn a b (fun m n => @Bool.rec (fun _ => Option R) (fI (k.wrap (a * 2 ^ (min b.toNat k.bits))) K)
    (qsm k (Nat.mul m (Nat.pow 2 n)) K (fI (k.wrap (a * 2 ^ (min b.toNat k.bits))) K)) (Nat.ble n (kbits k))) (fI (k.wrap (a * 2 ^ (min b.toNat k.bits))) K)

theorem qshl_eq (k : IntKind) (a b : Int) (K : Int → Option R) : qshl k a b K = K (k.wrap (a * 2 ^ (min b.toNat k.bits))) := by
  unfold qshl
  rw [qnn_eq, fI_eq]
  rintro m n rfl rfl
  cases hb : Nat.ble n (kbits k) with
  | false => rfl
  | true =>
    show qsm k (m * 2 ^ n) K _ = _
    rw [qsm_eq]
    intro h
    have hle : n ≤ k.bits := by rw [← kbits_eq]; exact Nat.le_of_ble_eq_true hb
    rw [fI_eq, Int.toNat_natCast, Nat.min_eq_left hle, show ((m : Int) * 2 ^ n) = ((m * 2 ^ n : Nat) : Int) by simp, wrap_small h]

noncomputable def qshr (k : IntKind) (a b : Int) (K : Int → Option R) : Option R :=
  qnn a b (fun m n => @Bool.rec (fun _ => Option R) (fI (a.fdiv (2 ^ (min b.toNat k.bits))) K)
    (fN (Nat.div m (Nat.pow 2 n)) fun r => K (.ofNat r)) (Nat.ble n (kbits k))) (fI (a.fdiv (2 ^ (min b.toNat k.bits))) K)

theorem qshr_eq (k : IntKind) (a b : Int) (K : Int → Option R) : qshr k a b K = K (a.fdiv (2 ^ (min b.toNat k.bits))) := by
  unfold qshr
  rw [qnn_eq, fI_eq]
  rintro m n rfl rfl
  cases hb : Nat.ble n (kbits k) with
  | false => rfl
  | true =>
    show fN (m / 2 ^ n) (fun r => K (.ofNat r)) = _
    have hle : n ≤ k.bits := by rw [← kbits_eq]; exact Nat.le_of_ble_eq_true hb
    rw [fI_eq, fN_eq, Int.toNat_natCast, Nat.min_eq_left hle, Int.fdiv_eq_ediv_of_nonneg _ (by exact Int.pow_nonneg (by decide))]
    refine congrArg K ?_
    show ((m / 2 ^ n : Nat) : Int) = _
    simp

noncomputable def qlt : Int → Int → Bool :=
  @Int.rec (fun _ => Int → Bool) (fun m => @Int.rec (fun _ => Bool) (fun n => Nat.ble (Nat.succ m) n) (fun _ => false)) (fun m => @Int.rec (fun _ => Bool) (fun _ => true) (fun n => Nat.ble (Nat.succ n) m))

theorem qlt_eq (a b : Int) : qlt a b = decide (a < b) := by
  cases a with
  | ofNat m =>
    cases b with
    | ofNat n =>
      show Nat.ble (Nat.succ m) n = _
      by_cases h : m < n
      · rw [Nat.ble_eq_true_of_le h, decide_eq_true]; simpa using h
      · rw [decide_eq_false (by simpa using h)]
        cases hb : Nat.ble (Nat.succ m) n with
        | false => rfl
        | true => exact (h (Nat.le_of_ble_eq_true hb)).elim
    | negSucc n => exact (decide_eq_false (by simp [Int.negSucc_eq]; omega)).symm
  | negSucc m =>
    cases b with
    | ofNat n => exact (decide_eq_true (by simp [Int.negSucc_eq]; omega)).symm
    | negSucc n =>
      show Nat.ble (Nat.succ n) m = _
      by_cases h : n < m
      · rw [Nat.ble_eq_true_of_le h, decide_eq_true]; simp [Int.negSucc_eq]; omega
      · rw [decide_eq_false (by simp [Int.negSucc_eq]; omega)]
        cases hb : Nat.ble (Nat.succ n) m with
        | false => rfl
        | true => exact (h (Nat.le_of_ble_eq_true hb)).elim

noncomputable def qnot (b : Bool) : Bool := @Bool.rec (fun _ => Bool) true false b
theorem qnot_eq (b : Bool) : qnot b = !b := by cases b <;> rfl

noncomputable def qeqI : Int → Int → Bool :=
  @Int.rec (fun _ => Int → Bool) (fun m => @Int.rec (fun _ => Bool) (fun n => Nat.beq m n) (fun _ => false)) (fun m => @Int.rec (fun _ => Bool) (fun _ => false) (fun n => Nat.beq m n))

theorem natbeq (m n : Nat) : Nat.beq m n = decide (m = n) := by
  by_cases h : m = n
  · subst h; simp
  · rw [decide_eq_false h]
    cases hb : Nat.beq m n with
    | false => rfl
    | true => exact (h (Nat.eq_of_beq_eq_true hb)).elim

theorem qeqI_eq (a b : Int) : qeqI a b = (a == b) := by
  rw [show (a == b) = decide (a = b) from rfl]
  cases a with
  | ofNat m =>
    cases b with
    | ofNat n => exact (natbeq m n).trans (decide_eq_decide.2 ⟨fun h => by rw [h], fun h => Int.ofNat.inj h⟩)
    | negSucc n => rfl
  | negSucc m =>
    cases b with
    | ofNat n => rfl
    | negSucc n => exact (natbeq m n).trans (decide_eq_decide.2 ⟨fun h => by rw [h], fun h => Int.negSucc.inj h⟩)

noncomputable def qB (b : Bool) (K : T → Option R) : Option R := @Bool.rec (fun _ => Option R) (K (.bool false)) (K (.bool true)) b
theorem qB_eq (b : Bool) (K : T → Option R) : qB b K = K (.bool b) := by cases b <;> rfl

noncomputable def qcmp (c : Int → Int → Bool) (k : IntKind) (a : Int) (k' : IntKind) (b : Int) (K : T → Option R) : Option R := NCk (sameK k k') (qB (c a b) K)
noncomputable def qar (f : IntKind → Int → Int → (Int → Option R) → Option R) (k : IntKind) (a : Int) (k' : IntKind) (b : Int) (K : T → Option R) : Option R := NCk (sameK k k') (f k a b fun n => K (.int k n))
noncomputable def qsh (f : IntKind → Int → Int → (Int → Option R) → Option R) (k : IntKind) (a : Int) (k' : IntKind) (b : Int) (K : T → Option R) : Option R := @Bool.rec (fun _ => Option R) (f k a b fun n => K (.int k n)) none (qlt b 0)
noncomputable def qnz (f : IntKind → Int → Int → (Int → Option R) → Option R) (k : IntKind) (a : Int) (k' : IntKind) (b : Int) (K : T → Option R) : Option R := NCk (sameK k k') (@Bool.rec (fun _ => Option R) (f k a b fun n => K (.int k n)) none (qeqI b 0))

noncomputable def qint : BinOp → IntKind → Int → IntKind → Int → (T → Option R) → Option R :=
  @BinOp.rec (fun _ => IntKind → Int → IntKind → Int → (T → Option R) → Option R)
    (qar qadd) (qar qsub) (qar qmul) (qnz qquo) (qnz fun _ => qrem) (qar (qlog .and Nat.land)) (qar (qlog .or Nat.lor)) (qar (qlog .xor Nat.xor)) (qsh qshl) (qsh qshr)
    (qar fun k a b K => fI (bitsOp .andNot k a b) K) (qcmp qeqI) (qcmp fun a b => qnot (qeqI a b)) (qcmp qlt) (qcmp fun a b => qnot (qlt b a)) (qcmp fun a b => qlt b a) (qcmp fun a b => qnot (qlt a b))

theorem qint_eq (op : BinOp) (k : IntKind) (a : Int) (k' : IntKind) (b : Int) (K : T → Option R) : qint op k a k' b K = nint op k a k' b K := by
  have h0 : ∀ b : Int, qlt b 0 = !decide (0 ≤ b) := fun b => by
    rw [qlt_eq]
    by_cases h : 0 ≤ b
    · rw [decide_eq_true h, decide_eq_false (by omega)]; rfl
    · rw [decide_eq_false h, decide_eq_true (by omega)]; rfl
  have hz : ∀ b : Int, qeqI b 0 = decide (b = 0) := fun b => by rw [qeqI_eq]; rfl
  have hrec : ∀ (c : Bool) (p : Option R), @Bool.rec (fun _ => Option R) p none (!c) = NCk c p := fun c p => by cases c <;> rfl
  have hrec' : ∀ (c : Bool) (p : Option R), @Bool.rec (fun _ => Option R) p none c = NCk (!c) p := fun c p => by cases c <;> rfl
  have hle : ∀ a b : Int, qnot (qlt b a) = decide (a ≤ b) := fun a b => by
    rw [qnot_eq, qlt_eq]
    by_cases h : a ≤ b
    · rw [decide_eq_true h, decide_eq_false (by omega)]; rfl
    · rw [decide_eq_false h, decide_eq_true (by omega)]; rfl
  have hne : ∀ a b : Int, qnot (qeqI a b) = (a != b) := fun a b => by rw [qnot_eq, qeqI_eq]; rfl
  cases op
  · exact congrArg (NCk _) (qadd_eq k a b _)
  · exact congrArg (NCk _) (qsub_eq k a b _)
  · exact congrArg (NCk _) (qmul_eq k a b _)
  · refine congrArg (NCk _) ?_; rw [hz, hrec']; exact congrArg (NCk _) (qquo_eq k a b _)
  · refine congrArg (NCk _) ?_; rw [hz, hrec']; exact congrArg (NCk _) (qrem_eq a b _)
  · exact congrArg (NCk _) (qlog_eq land_ok k a b _)
  · exact congrArg (NCk _) (qlog_eq lor_ok k a b _)
  · exact congrArg (NCk _) (qlog_eq xor_ok k a b _)
  · show @Bool.rec (fun _ => Option R) (qshl k a b fun n => K (.int k n)) none (qlt b 0) = _
    rw [h0, hrec]; exact congrArg (NCk _) (qshl_eq k a b _)
  · show @Bool.rec (fun _ => Option R) (qshr k a b fun n => K (.int k n)) none (qlt b 0) = _
    rw [h0, hrec]; exact congrArg (NCk _) (qshr_eq k a b _)
  · exact congrArg (NCk _) (fI_eq _ _)
  · exact congrArg (NCk _) ((qB_eq _ _).trans (congrArg (fun c => K (.bool c)) (qeqI_eq a b)))
  · exact congrArg (NCk _) ((qB_eq _ _).trans (congrArg (fun c => K (.bool c)) (hne a b)))
  · exact congrArg (NCk _) ((qB_eq _ _).trans (congrArg (fun c => K (.bool c)) (qlt_eq a b)))
  · exact congrArg (NCk _) ((qB_eq _ _).trans (congrArg (fun c => K (.bool c)) (hle a b)))
  · exact congrArg (NCk _) ((qB_eq _ _).trans (congrArg (fun c => K (.bool c)) (qlt_eq b a)))
  · exact congrArg (NCk _) ((qB_eq _ _).trans (congrArg (fun c => K (.bool c)) (hle b a)))

/-! ### Strings, lists -/

noncomputable def qnull {α : Type} : List α → Bool := @List.rec α (fun _ => Bool) true (fun _ _ _ => false)

noncomputable def qbeq : List UInt8 → List UInt8 → Bool :=
  @List.rec UInt8 (fun _ => List UInt8 → Bool) qnull (fun x _ go b => @List.rec UInt8 (fun _ => UInt8 → (List UInt8 → Bool) → Bool) (fun _ _ => false) (fun y s _ x go => @Bool.rec (fun _ => Bool) false (go s) (Nat.beq x.toNat y.toNat)) b x go)

theorem qbeq_eq : ∀ a b : List UInt8, qbeq a b = (a == b)
  | [], [] => rfl
  | [], y :: s => rfl
  | x :: r, [] => rfl
  | x :: r, y :: s => by
    show @Bool.rec (fun _ => Bool) false (qbeq r s) (Nat.beq x.toNat y.toNat) = (x == y && r == s)
    rw [qbeq_eq r s, natbeq, show (x == y) = decide (x = y) from rfl]
    by_cases h : x = y
    · subst h; simp
    · rw [decide_eq_false h, decide_eq_false (fun e => h (UInt8.toNat_inj.1 e))]; rfl

noncomputable def qstr1 (op : BinOp) (a b : List UInt8) (K : T → Option R) : Option R := nstr op a b fun v => fT v K

noncomputable def qstr : BinOp → List UInt8 → List UInt8 → (T → Option R) → Option R :=
  @BinOp.rec (fun _ => List UInt8 → List UInt8 → (T → Option R) → Option R)
    (fun a b K => NCk (decide (a.length + b.length ≤ 9223372036854775807)) (fL (a ++ b) fun s => K (.str s))) (qstr1 .sub) (qstr1 .mul) (qstr1 .quo) (qstr1 .rem) (qstr1 .and) (qstr1 .or) (qstr1 .xor) (qstr1 .shl) (qstr1 .shr) (qstr1 .andNot)
    (fun a b K => qB (qbeq a b) K) (fun a b K => qB (qnot (qbeq a b)) K) (qstr1 .lss) (qstr1 .leq) (qstr1 .gtr) (qstr1 .geq)

theorem qstr_eq (op : BinOp) (a b : List UInt8) (K : T → Option R) : qstr op a b K = nstr op a b K := by
  have h1 : ∀ op, qstr1 op a b K = nstr op a b K := fun op => by unfold qstr1; simp only [fT_eq]
  cases op <;> first | exact h1 _ | skip
  · exact congrArg (NCk _) (fL_eq _ _)
  · show qB (qbeq a b) K = _; rw [qB_eq, qbeq_eq]; rfl
  · show qB (qnot (qbeq a b)) K = _; rw [qB_eq, qnot_eq, qbeq_eq]; rfl

noncomputable def qget {α : Type} (l : List α) (i : Nat) (K : α → Option R) : Option R :=
  @List.rec α (fun _ => Nat → (α → Option R) → Option R) (fun _ _ => none) (fun x _ go i K => @Nat.rec (fun _ => Option R) (K x) (fun j _ => go j K) i) l i K

theorem qget_eq {α : Type} : ∀ (l : List α) (i : Nat) (K : α → Option R), qget l i K = NOpt l[i]? K
  | [], i, K => rfl
  | x :: r, 0, K => rfl
  | x :: r, i + 1, K => qget_eq r i K

noncomputable def qidxS (s : List UInt8) (i : Int) (K : AV → Option R) : Option R :=
  @Int.rec (fun _ => Option R) (fun n => qget s n fun c => fN c.toNat fun n => K (.t (.int .u8 (.ofNat n)))) (fun _ => none) i

theorem qidxS_eq (s : List UInt8) (i : Int) (K : AV → Option R) : qidxS s i K = NCk (decide (0 ≤ i)) (NOpt s[i.toNat]? fun c => K (.t (.int .u8 c.toNat))) := by
  cases i with
  | ofNat n =>
    show qget s n _ = _
    rw [qget_eq, decide_eq_true (by simp)]
    simp only [fN_eq]
    rfl
  | negSucc n => rw [decide_eq_false (by simp [Int.negSucc_eq])]; rfl

end
end Go.Proofs.YthpkehhghcpolaaDoor
