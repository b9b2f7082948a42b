/-
  The document's numbers in bytes, as the walk shows them.
-/
import Derived.Test.YtddigcnpapfpjaaPut2
namespace Go.Proofs.Ytddigcnpapfpjaa
open Go.IntWalk
set_option maxRecDepth 100000
set_option linter.unusedVariables false
set_option linter.unusedSimpArgs false

/-- Bytes that come in. -/
inductive BX : T → List UInt8 → Prop
  | vec (bs : List UInt8) (L : List T) (h : L = U bs) : BX (.vec 1 L) bs
  | nil : BX .nils []

theorem has_runs {x : T} {bs : List UInt8} (hx : BX x bs) (hb : bs.length ≤ 140737488351232) (at_ n : Int) (hat : -9223372036854775808 ≤ at_) (hn : -9223372036854775808 ≤ n) :
    Runs Try.prog 24 [x, .int .i64 at_, .int .i64 n] (.t (.bool (decide (There bs.length at_ n)))) := by
  have no : ¬ There bs.length at_ n → Runs Try.prog 24 [x, .int .i64 at_, .int .i64 n] (.t (.bool false)) → Runs Try.prog 24 [x, .int .i64 at_, .int .i64 n] (.t (.bool (decide (There bs.length at_ n)))) := fun h k => by rw [decide_eq_false h]; exact k
  cases hx with
  | nil =>
    have hno : ¬ There ([] : List UInt8).length at_ n := fun hh => by have := hh.1; have := hh.2; simp at this; omega
    refine no hno ?_
    refine Runs.of_call ?_ rfl
    refine CallS.of_fn tab_ok reg_ok Try.func24 rfl rfl ?_
    refine br_intro (fun h1 => ?_) (fun h1 => And.intro rfl rfl)
    have h1 := of_decide_eq_true h1
    refine br_intro (fun h2 => ?_) (fun h2 => And.intro rfl rfl)
    refine br_intro (fun h3 => ?_) (fun h3 => And.intro rfl rfl)
    have h3 := of_decide_eq_true h3
    refine br_intro (fun h4 => ?_) (fun h4 => And.intro rfl rfl)
    have h4 : at_ ≤ 0 := of_decide_eq_true h4
    refine And.intro (congrArg (fun b => some (T.bool b)) ?_) rfl
    show decide (n ≤ IntKind.i64.wrap (0 - at_)) = false
    rw [i64_in _ (by omega)]
    exact decide_eq_false (by omega)
  | vec bs L h =>
    subst h
    refine Runs.of_call ?_ rfl
    refine CallS.of_fn tab_ok reg_ok Try.func24 rfl rfl ?_
    refine br_intro (fun h1 => ?_) (fun h1 => ?_)
    rotate_left
    · have h1 := of_decide_eq_false h1
      exact And.intro (congrArg (fun b => some (T.bool b)) (decide_eq_false (fun hh => by have := hh.1; omega)).symm) rfl
    have h1 := of_decide_eq_true h1
    refine br_intro (fun h2 => ?_) (fun h2 => ?_)
    rotate_left
    · have h2 : ¬ n ≤ 8 := of_decide_eq_false h2
      exact And.intro (congrArg (fun b => some (T.bool b)) (decide_eq_false (fun hh => by have := hh.1; omega)).symm) rfl
    have h2 : n ≤ 8 := of_decide_eq_true h2
    refine br_intro (fun h3 => ?_) (fun h3 => ?_)
    rotate_left
    · have h3 : ¬ at_ ≥ 0 := of_decide_eq_false h3
      exact And.intro (congrArg (fun b => some (T.bool b)) (decide_eq_false (fun hh => by have := hh.2; omega)).symm) rfl
    have h3 : at_ ≥ 0 := of_decide_eq_true h3
    refine br_intro (fun h4 => ?_) (fun h4 => ?_)
    rotate_left
    · have h4 : ¬ at_ ≤ ((U bs).length : Int) := of_decide_eq_false h4
      rw [U_len] at h4
      exact And.intro (congrArg (fun b => some (T.bool b)) (decide_eq_false (fun hh => by have := hh.1; have := hh.2; omega)).symm) rfl
    have h4 : at_ ≤ ((U bs).length : Int) := of_decide_eq_true h4
    rw [U_len] at h4
    refine And.intro (congrArg (fun b => some (T.bool b)) ?_) rfl
    show decide (n ≤ IntKind.i64.wrap (((U bs).length : Int) - at_)) = _
    rw [U_len, i64_in _ (by omega)]
    by_cases hc : n ≤ (bs.length : Int) - at_
    · rw [decide_eq_true hc, decide_eq_true (show There bs.length at_ n from ⟨⟨h1, h2⟩, h3, by omega⟩)]
    · rw [decide_eq_false hc, decide_eq_false (show ¬ There bs.length at_ n from fun hh => hc (by have := hh.2.2; omega))]

/-- A number of the last bytes. -/
theorem le_drop (l : List UInt8) (k : Nat) (h : k < l.length) : le (l.drop k) = (l[k]'h).toNat + 256 * le (l.drop (k + 1)) := by
  rw [List.drop_eq_getElem_cons h, le]

theorem num_runs (bs : List UInt8) (hb : bs.length ≤ 140737488351232) (a n : Nat) (h : There bs.length a n) :
    Runs Try.prog 25 [.vec 1 (U bs), .int .i64 a, .int .i64 n] (.t (.int .u64 (le (part bs a n)))) := by
  refine Runs.of_call ?_ rfl
  refine CallS.of_fn tab_ok reg_ok Try.func25 rfl rfl ?_
  have hH := has_runs (.vec bs (U bs) rfl) hb (a : Int) (n : Int) (by omega) (by omega)
  rw [decide_eq_true h] at hH
  refine CallS.pure hH rfl ?_
  obtain ⟨⟨h1, h2⟩, h3, h4⟩ := h
  have hpl : (part bs (a : Int) (n : Int)).length = n := by simp [part]; omega
  generalize hp : part bs (a : Int) (n : Int) = q at hpl ⊢
  have hq : ∀ (k : Nat) (hk : k < q.length), bs[a + k]? = some (q[k]'hk) := fun k hk => by
    have : q[k]? = some (q[k]'hk) := List.getElem?_eq_getElem hk
    rw [← this, ← hp, part, Int.toNat_natCast, Int.toNat_natCast, List.getElem?_take_of_lt (by omega), List.getElem?_drop]
  refine loop_on (fun k : Int => -1 ≤ k ∧ k < n) (fun k => ⟨[(0, .t (.vec 1 (U bs))), (1, .t (.int .i64 a)), (7, .t (.int .u64 (le (q.drop (k + 1).toNat)))), (8, .t (.int .i64 k))], []⟩)
    (fun k => (k + 1).toNat) ((n : Int) - 1) (by omega) (weak_of ⟨rfl, rfl, ?_, ?_, trivial⟩ rfl) (fun k hk => ?_)
  · rw [List.drop_of_length_le (by omega)]; rfl
  · exact congrArg (fun x => AV.t (.int .i64 x)) (i64_in _ (by omega))
  refine br_intro (fun h5 => ?_) (fun h5 => ?_)
  · have h5 : k ≥ 0 := of_decide_eq_true h5
    obtain ⟨j, rfl⟩ := Int.eq_ofNat_of_zero_le h5
    have hjq : j < q.length := by omega
    have e1 : IntKind.i64.wrap ((a : Int) + j) = ((a + j : Nat) : Int) := by rw [i64_in _ (by omega)]; omega
    have hU : (U bs)[(IntKind.i64.wrap ((a : Int) + j)).toNat]? = some (T.int .u8 ((q[j]'hjq).toNat : Int)) := by
      rw [e1, Int.toNat_natCast, U, List.getElem?_map, hq j hjq]; rfl
    refine ck_intro (show (true && decide (0 ≤ IntKind.i64.wrap ((a : Int) + (j : Int)))) = true from decide_eq_true (by rw [e1]; exact Int.natCast_nonneg _)) ?_
    refine opt_intro hU ?_
    have hlt := le_lt q
    have hle : le (q.drop (j + 1)) < 256 ^ 7 := by
      have := le_lt (q.drop (j + 1))
      refine Nat.lt_of_lt_of_le this ?_
      rw [show (256 : Nat) ^ 7 = 2 ^ (8 * 7) by rw [Nat.pow_mul]]
      exact Nat.pow_le_pow_right (by omega) (by simp; omega)
    have hc := (q[j]'hjq).toNat_lt
    refine ⟨⟨(j : Int) - 1, by omega⟩, weak_of ⟨rfl, rfl, ?_, ?_, trivial⟩ rfl, by show ((j : Int) - 1 + 1).toNat < ((j : Int) + 1).toNat; omega⟩
    · refine congrArg (fun x => AV.t (.int .u64 x)) ?_
      have e2 : ((j : Int) - 1 + 1).toNat = j := by omega
      have e3 : ((j : Int) + 1).toNat = j + 1 := by omega
      rw [e2, le_drop q j hjq, e3]
      have e4 : IntKind.u64.wrap (((le (q.drop (j + 1)) : Nat) : Int) * 256) = ((256 * le (q.drop (j + 1)) : Nat) : Int) := by
        rw [show ((le (q.drop (j + 1)) : Nat) : Int) * 256 = ((256 * le (q.drop (j + 1)) : Nat) : Int) by omega, u64_nat (by omega)]
      have e5 : IntKind.u64.wrap (((q[j]'hjq).toNat : Nat) : Int) = (((q[j]'hjq).toNat : Nat) : Int) := u64_nat (by omega)
      rw [e4, e5, ← Int.natCast_add, u64_nat (by omega)]
      congr 1
      omega
    · exact congrArg (fun x => AV.t (.int .i64 x)) (i64_in _ (by omega))
  · have h5 : ¬ k ≥ 0 := of_decide_eq_false h5
    obtain rfl : k = -1 := by omega
    exact And.intro rfl rfl

theorem refGet_runs {x : T} {bs : List UInt8} (hx : BX x bs) (hb : bs.length ≤ 140737488351232) (at_ n : Int) (hat : -9223372036854775808 ≤ at_) (hn : -9223372036854775808 ≤ n) :
    Runs Try.prog 14 [x, .int .i64 at_, .int .i64 n] (getR bs at_ n) := by
  have hH := has_runs hx hb at_ n hat hn
  by_cases h : There bs.length at_ n
  · cases hx with
    | nil => exact absurd h (fun hh => by have := hh.1; have := hh.2; simp at this; omega)
    | vec bs L e =>
      subst e
      obtain ⟨a, rfl⟩ := Int.eq_ofNat_of_zero_le h.2.1
      obtain ⟨m, rfl⟩ := Int.eq_ofNat_of_zero_le (show 0 ≤ n by have := h.1; omega)
      have hN := num_runs bs hb a m h
      rw [getR, if_pos h]
      rw [decide_eq_true h] at hH
      refine Runs.of_call ?_ rfl
      refine CallS.of_fn tab_ok reg_ok Try.func14 rfl rfl ?_
      refine CallS.pure hH rfl ?_
      refine CallS.pure hN rfl ?_
      exact And.intro ⟨rfl, rfl, trivial⟩ rfl
  · rw [getR, if_neg h]
    rw [decide_eq_false h] at hH
    cases hx with
    | nil =>
      refine Runs.of_call ?_ rfl
      refine CallS.of_fn tab_ok reg_ok Try.func14 rfl rfl ?_
      refine CallS.pure hH rfl ?_
      exact And.intro ⟨rfl, rfl, trivial⟩ rfl
    | vec bs L e =>
      subst e
      refine Runs.of_call ?_ rfl
      refine CallS.of_fn tab_ok reg_ok Try.func14 rfl rfl ?_
      refine CallS.pure hH rfl ?_
      exact And.intro ⟨rfl, rfl, trivial⟩ rfl

def litS (n v k : Nat) : St :=
  ⟨[(0, .t (.int .i64 n)), (1, .t (.int .u64 ((v / 256 ^ k : Nat) : Int))), (5, .sl 1 0 0 k), (6, .t (.int .i64 k))], [.arr tU8 1 true 0 (.ts []), .arr tU8 1 false 0 (.ts (U (little k v)))]⟩

theorem little_runs (n v : Nat) (hn : n ≤ 8) (hv : v < 18446744073709551616) : Runs Try.prog 18 [.int .i64 n, .int .u64 v] (oU false (little n v)) := by
  refine Runs.of_call ?_ rfl
  refine CallS.of_fn tab_ok reg_ok Try.func18 rfl rfl ?_
  refine loop_on (fun k : Nat => k ≤ n) (litS n v) (fun k => n - k) 0 (by omega) (weak_of ⟨rfl, ?_, rfl, rfl, trivial⟩ rfl) (fun k hk => ?_)
  · exact congrArg (fun x : Nat => AV.t (.int .u64 (x : Int))) (by rw [Nat.pow_zero, Nat.div_one])
  have hl : (U (little k v)).length = k := by rw [U_len, little_len]
  have hvk : v / 256 ^ k < 18446744073709551616 := Nat.lt_of_le_of_lt (Nat.div_le_self _ _) hv
  refine br_intro (fun h => ?_) (fun h => ?_)
  · have h := of_decide_eq_true h
    generalize hw : v / 256 ^ k = w at hvk ⊢
    refine Or.inl (And.intro hl.symm (ck_intro (fits1 (n := k + 1) (by omega)) ?_))
    refine ⟨⟨k + 1, by omega⟩, weak_gc [0, 1] rfl ⟨rfl, ?_, rfl, ?_, trivial⟩ ⟨rfl, ?_, trivial⟩, by show n - (k + 1) < n - k; omega⟩
    · refine congrArg (fun x => some (AV.t (.int .u64 x))) ?_
      rw [Nat.pow_succ, ← Nat.div_div_eq_div_mul, hw]
      show IntKind.u64.wrap ((w : Int).tdiv 256) = _
      rw [Int.tdiv_eq_ediv_of_nonneg (by omega), show (w : Int) / 256 = ((w / 256 : Nat) : Int) by omega, u64_nat (by omega)]
    · exact congrArg (fun x => some (AV.t (.int .i64 x))) (i64_in _ (by omega))
    · refine congrArg (fun x => some (Blk.arr tU8 1 false 0 (.ts x))) ?_
      show U (little k v) ++ [T.int .u8 (IntKind.u8.wrap ((w : Int).tmod 256))] = _
      rw [little_snoc, U_app, hw, Int.tmod_eq_emod_of_nonneg (by omega), IntKind.wrap_u8]
      congr 1
  · have h := of_decide_eq_false h
    obtain rfl : k = n := by omega
    exact And.intro ⟨rfl, rfl, by rw [U_len, little_len]⟩ rfl

end Go.Proofs.Ytddigcnpapfpjaa
