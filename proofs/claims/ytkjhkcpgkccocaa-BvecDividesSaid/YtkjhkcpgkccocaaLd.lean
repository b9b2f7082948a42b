/-
  The document's answer on bits: negatives, products.
-/
import Derived.Test.YtkjhkcpgkccocaaLc
namespace Go.Proofs.Ytkjhkcpgkccocaa
open Go.IntWalk
set_option maxRecDepth 100000
set_option linter.unusedVariables false
set_option linter.unusedSimpArgs false

/-- A row of bits that came of a call. -/
def slOf (b : Nat) (l : List Bool) : AV := .sl b 0 0 (LB l).length
def arrOf (l : List Bool) : Blk := .arr tB 1 false 0 (.ts (LB l))

theorem LB_all (l : List Bool) : ((LB l).drop 0).take (LB l).length = LB l := by simp
theorem LB_alln {l : List Bool} {n : Nat} (h : n = l.length) : ((LB l).drop 0).take n = LB l := by subst h; rw [← LB_len l]; exact LB_all l

def compl (x w : Nat) : Nat := 2 ^ w - 1 - x % 2 ^ w

theorem compl_lt (x w : Nat) : compl x w < 2 ^ w := by
  have := Nat.pow_pos (n := w) (show 0 < 2 by omega)
  unfold compl; omega

theorem not_bits (x w : Nat) : (bitsL x w).map not = bitsL (compl x w) w := by
  simp only [bitsL, List.map_map]
  apply List.map_congr_left
  intro i hi
  have hi := List.mem_range.1 hi
  have hlt := Nat.mod_lt x (Nat.pow_pos (n := w) (show 0 < 2 by omega))
  have h1 := Nat.testBit_two_pow_sub_succ hlt i
  have e : compl x w = 2 ^ w - (x % 2 ^ w + 1) := by unfold compl; omega
  rw [e, h1, Nat.testBit_mod_two_pow]
  simp [hi]

theorem cut_nil (w : Nat) : cutL [] w false = bitsL 0 w := by
  simp [cutL, bitsL]

theorem rnot_runs {L : List T} (x w : Nat) (h : L = LB (bitsL x w)) (hw : w ≤ 1000) : Runs Try.prog 57 [.vec 1 L] (oB (bitsL (compl x w) w)) := by
  rw [← not_bits]
  exact lnot_runs h (by rw [bitsL_len]; exact hw)

theorem zeros_runs (w : Nat) (hw : w ≤ 1000) : Runs Try.prog 71 [.nils, .int .i64 (w : Int), .bool false] (oB (bitsL 0 w)) := by
  have := cut_runs .nil (by simp) (w : Int) (by omega) (by omega) false
  rw [Int.toNat_natCast, cut_nil] at this
  exact this

def negW (x w : Nat) : Nat := (2 ^ w - x % 2 ^ w) % 2 ^ w

theorem rneg_runs {L : List T} (x w : Nat) (h : L = LB (bitsL x w)) (hw : w ≤ 1000) : Runs Try.prog 69 [.vec 1 L] (oB (bitsL (negW x w) w)) := by
  subst h
  have e : bitsL (negW x w) w = bitsL (compl x w + 0 + 1) w := by
    apply bitsL_congr
    have hlt := Nat.mod_lt x (Nat.pow_pos (n := w) (show 0 < 2 by omega))
    unfold compl negW
    rw [show 2 ^ w - 1 - x % 2 ^ w + 0 + 1 = 2 ^ w - x % 2 ^ w by omega, Nat.mod_mod]
  rw [e]
  have hz := zeros_runs w hw
  refine Runs.of_call ?_ rfl
  refine CallS.of_fn tab_ok reg_ok Try.func69 rfl rfl ?_
  refine CallS.snap (rnot_runs x w rfl hw) rfl (oB_flat _) ?_
  rw [← LBb_len x w] at hz
  refine CallS.pure hz rfl ?_
  refine CallS.snap (radd_runs (compl x w) 0 w 1 (LB_all _) ((LB_all (bitsL 0 (LB (bitsL x w)).length)).trans (by rw [LBb_len])) hw true rfl) rfl (oB_flat _) ?_
  exact And.intro ⟨rfl, rfl, rfl⟩ rfl

theorem ofL_append (a b : List Bool) : ofL (a ++ b) = ofL a + 2 ^ a.length * ofL b := by
  induction a with
  | nil => simp [ofL]
  | cons x r ih =>
    simp only [List.cons_append, ofL, ih, List.length_cons, Nat.pow_succ]
    rw [Nat.mul_comm (2 ^ r.length) 2, Nat.mul_assoc, Nat.mul_add]; omega

theorem append_bits (x w y v : Nat) : bitsL x w ++ bitsL y v = bitsL (x % 2 ^ w + 2 ^ w * y) (w + v) := by
  have h := bits_ofL (bitsL x w ++ bitsL y v)
  rw [← h, ofL_append, ofL_bits, ofL_bits, List.length_append, bitsL_len, bitsL_len]
  apply bitsL_congr
  rw [Nat.pow_add, Nat.mul_comm (2 ^ w) (2 ^ v)]
  have : x % 2 ^ w + 2 ^ w * y = (x % 2 ^ w + 2 ^ w * (y % 2 ^ v)) + 2 ^ v * 2 ^ w * (y / 2 ^ v) := by
    have h1 := Nat.div_add_mod y (2 ^ v)
    conv => lhs; rw [← h1]
    rw [Nat.mul_add, ← Nat.mul_assoc, Nat.mul_comm (2 ^ w) (2 ^ v)]; omega
  rw [this, Nat.add_mul_mod_self_left]

theorem cut_bits (x w v : Nat) (hx : x < 2 ^ w) : cutL (bitsL x w) v false = bitsL x v := by
  simp only [cutL]
  apply List.map_congr_left
  intro i hi
  rw [bitsL_get]
  split
  · rfl
  · rename_i h
    have : x.testBit i = false := Nat.testBit_lt_two_pow (Nat.lt_of_lt_of_le hx (Nat.pow_le_pow_right (by omega) (by omega)))
    rw [this]; rfl

theorem LB_append (a b : List Bool) : LB (a ++ b) = LB a ++ LB b := by simp [LB]

def mulS (x y w k : Nat) : St :=
  ⟨[(0, .t (.vec 1 (LB (bitsL x w)))), (1, .t (.vec 1 (LB (bitsL y w)))), (5, slOf 1 (bitsL (x * (y % 2 ^ k)) w)), (11, .t (.int .i64 w)), (12, .t (.int .i64 k))], [.arr tB 1 true 0 (.ts []), arrOf (bitsL (x * (y % 2 ^ k)) w)]⟩

theorem rmul_runs {L L' : List T} (x y w : Nat) (h : L = LB (bitsL x w)) (h' : L' = LB (bitsL y w)) (hw : w ≤ 400) (hx : x < 2 ^ w) (hy : y < 2 ^ w) :
    Runs Try.prog 58 [.vec 1 L, .vec 1 L'] (oB (bitsL (x * y) w)) := by
  subst h h'
  refine Runs.of_call ?_ rfl
  refine CallS.of_fn tab_ok reg_ok Try.func58 rfl rfl ?_
  have hz := zeros_runs w (by omega)
  rw [← LBb_len x w] at hz
  refine CallS.pure hz rfl ?_
  have e0 : bitsL 0 (LB (bitsL x w)).length = bitsL (x * (y % 2 ^ 0)) w := by rw [LBb_len, Nat.pow_zero, Nat.mod_one, Nat.mul_zero]
  refine loop_on (fun k : Nat => k ≤ w) (mulS x y w) (fun k => w - k) 0 (by omega) (weak_of ⟨rfl, rfl, congrArg (slOf 1) e0, congrArg (fun n : Nat => AV.t (.int .i64 n)) (LBb_len y w), rfl, trivial⟩ (congrArg (fun l => [Blk.arr tB 1 true 0 (.ts []), arrOf l]) e0)) (fun k hk => ?_)
  refine br_intro (fun h => ?_) (fun h => ?_)
  · have h := of_decide_eq_true h
    have ek : some (AV.t (.int .i64 (IntKind.i64.wrap ((k : Int) + 1)))) = some (AV.t (.int .i64 ((k + 1 : Nat) : Int))) := congrArg (fun x => some (AV.t (.int .i64 x))) (i64_in _ (by omega))
    refine opt_intro (LBb_get y w k (by omega)) ?_
    refine br_intro (fun hb => ?_) (fun hb => ?_)
    · refine CallS.pure (zeros_runs k (by omega)) rfl ?_
      refine And.intro rfl (ck_intro (fits1 (n := (LB (bitsL 0 k)).length + (LB (bitsL x w)).length) (by rw [LBb_len, LBb_len]; omega)) ?_)
      have hc := fun (L : List T) (h : L = LB (bitsL 0 k ++ bitsL x w)) => cut_runs (.vec _ L h) (by rw [List.length_append, bitsL_len, bitsL_len]; omega) ((LB (bitsL x w)).length : Int) (by omega) (by rw [LBb_len]; omega) false
      have hL : ((LB (bitsL 0 k) ++ LB (bitsL x w)).drop 0).take ((LB (bitsL 0 k)).length + (LB (bitsL x w)).length) = LB (bitsL 0 k ++ bitsL x w) := by
        rw [LB_append, ← List.length_append, List.drop_zero, List.take_length]
      refine CallS.snap (hc _ hL) rfl (oB_flat _) ?_
      have ecut : cutL (bitsL 0 k ++ bitsL x w) ((LB (bitsL x w)).length : Int).toNat false = bitsL (x * 2 ^ k) w := by
        rw [append_bits, Nat.zero_mod, Nat.zero_add, Int.toNat_natCast, LBb_len, cut_bits _ _ _ (by rw [Nat.pow_add]; exact Nat.mul_lt_mul_of_pos_left hx (Nat.pow_pos (by omega))), Nat.mul_comm]
      refine CallS.snap (radd_runs (x * (y % 2 ^ k)) (x * 2 ^ k) w 0 (LB_all _) ((LB_all (cutL (bitsL 0 k ++ bitsL x w) ((LB (bitsL x w)).length : Int).toNat false)).trans (by rw [ecut])) (by omega) false rfl) rfl (oB_flat _) ?_
      have e1 : bitsL (x * (y % 2 ^ k) + x * 2 ^ k + 0) w = bitsL (x * (y % 2 ^ (k + 1))) w := by
        rw [mod_succ_bit, hb, Nat.mul_add]; simp
      exact ⟨⟨k + 1, by omega⟩, weak_gc [0, 4] rfl ⟨rfl, rfl, congrArg (fun l => some (slOf 1 l)) e1, rfl, ek, trivial⟩ ⟨rfl, congrArg (fun l => some (arrOf l)) e1, trivial⟩, by show w - (k + 1) < w - k; omega⟩
    · have e1 : bitsL (x * (y % 2 ^ k)) w = bitsL (x * (y % 2 ^ (k + 1))) w := by
        rw [mod_succ_bit, hb]; rfl
      exact ⟨⟨k + 1, by omega⟩, weak_gc [0, 1] rfl ⟨rfl, rfl, congrArg (fun l => some (slOf 1 l)) e1, rfl, ek, trivial⟩ ⟨rfl, congrArg (fun l => some (arrOf l)) e1, trivial⟩, by show w - (k + 1) < w - k; omega⟩
  · have h := of_decide_eq_false h
    have hk : k = w := by omega
    subst hk
    have e : bitsL (x * (y % 2 ^ k)) k = bitsL (x * y) k := by rw [Nat.mod_eq_of_lt hy]
    rw [← e]
    exact And.intro ⟨rfl, rfl, rfl⟩ rfl

end Go.Proofs.Ytkjhkcpgkccocaa
