/-
  The document's answer on bits: bit by bit; shifts; bits put in; the signed value; what fits.
-/
import Derived.Test.YtkjhkcpgkccocaaLh
namespace Go.Proofs.Ytkjhkcpgkccocaa
open Go.IntWalk
set_option maxRecDepth 100000
set_option linter.unusedVariables false
set_option linter.unusedSimpArgs false

def bitN (op : Int) (x y : Nat) : Nat := if op = 4 then x &&& y else if op = 5 then x ||| y else x ^^^ y

theorem bitN_bit (op : Int) (x y k : Nat) : (bitN op x y).testBit k = if op = 4 then x.testBit k && y.testBit k else if op = 5 then x.testBit k || y.testBit k else x.testBit k != y.testBit k := by
  unfold bitN
  split
  · exact Nat.testBit_and _ _ _
  · split
    · exact Nat.testBit_or _ _ _
    · rw [Nat.testBit_xor]

def bwS (op : Int) (x y w k : Nat) : St :=
  ⟨[(0, .t (.int .i64 op)), (1, .t (.vec 1 (LB (bitsL x w)))), (2, .t (.vec 1 (LB (bitsL y w)))), (11, .t (.int .i64 w)), (12, .t (.int .i64 k)), (7, .sl 1 0 0 k)],
   [.arr tB 1 true 0 (.ts []), .arr tB 1 false 0 (.ts (LB (bitsL (bitN op x y) k)))]⟩

theorem bw_out {op : Int} {x y k : Nat} {b : Bool} (h : (bitN op x y).testBit k = b) : some (Blk.arr tB 1 false 0 (.ts (LB (bitsL (bitN op x y) k) ++ [.bool b]))) = some (Blk.arr tB 1 false 0 (.ts (LB (bitsL (bitN op x y) (k + 1))))) := by
  rw [bitsL_succ, LB_snoc, h]

theorem rbitwise_runs {L L' : List T} (op : Int) (x y w : Nat) (h : L = LB (bitsL x w)) (h' : L' = LB (bitsL y w)) (hw : w ≤ 1000) :
    Runs Try.prog 59 [.int .i64 op, .vec 1 L, .vec 1 L'] (oB (bitsL (bitN op x y) w)) := by
  subst h h'
  refine Runs.of_call ?_ rfl
  refine CallS.of_fn tab_ok reg_ok Try.func59 rfl rfl ?_
  refine loop_on (fun k : Nat => k ≤ w) (bwS op x y w) (fun k => w - k) 0 (by omega) (weak_of ⟨rfl, rfl, rfl, congrArg (fun n : Nat => AV.t (.int .i64 n)) (LBb_len x w), rfl, rfl, trivial⟩ rfl) (fun k hk => ?_)
  refine br_intro (fun h => ?_) (fun h => ?_)
  · have h := of_decide_eq_true h
    have hlen : (LB (bitsL (bitN op x y) k)).length = k := LBb_len _ _
    have ek : some (AV.t (.int .i64 (IntKind.i64.wrap ((k : Int) + 1)))) = some (AV.t (.int .i64 ((k + 1 : Nat) : Int))) := congrArg (fun x => some (AV.t (.int .i64 x))) (i64_in _ (by omega))
    have ox := LBb_get x w k (by omega)
    have oy := LBb_get y w k (by omega)
    have hb := bitN_bit op x y k
    refine br_intro (fun h4 => ?_) (fun h4 => ?_)
    · have h4 := eq_of_beq h4
      rw [if_pos h4] at hb
      refine opt_intro ox ?_
      refine br_intro (fun hx => ?_) (fun hx => ?_)
      · refine opt_intro oy ?_
        refine And.intro hlen.symm (ck_intro (fits1 (n := k + 1) (by omega)) ?_)
        exact ⟨⟨k + 1, by omega⟩, weak_gc [0, 1] rfl ⟨rfl, rfl, rfl, rfl, ek, rfl, trivial⟩ ⟨rfl, bw_out (by rw [hb, hx]; rfl), trivial⟩, by show w - (k + 1) < w - k; omega⟩
      · refine And.intro hlen.symm (ck_intro (fits1 (n := k + 1) (by omega)) ?_)
        exact ⟨⟨k + 1, by omega⟩, weak_gc [0, 1] rfl ⟨rfl, rfl, rfl, rfl, ek, rfl, trivial⟩ ⟨rfl, bw_out (by rw [hb, hx]; rfl), trivial⟩, by show w - (k + 1) < w - k; omega⟩
    have h4 := ne_of_beq_false h4
    rw [if_neg h4] at hb
    refine br_intro (fun h5 => ?_) (fun h5 => ?_)
    · have h5 := eq_of_beq h5
      rw [if_pos h5] at hb
      refine opt_intro ox ?_
      refine br_intro (fun hx => ?_) (fun hx => ?_)
      · refine And.intro hlen.symm (ck_intro (fits1 (n := k + 1) (by omega)) ?_)
        exact ⟨⟨k + 1, by omega⟩, weak_gc [0, 1] rfl ⟨rfl, rfl, rfl, rfl, ek, rfl, trivial⟩ ⟨rfl, bw_out (by rw [hb, hx]; rfl), trivial⟩, by show w - (k + 1) < w - k; omega⟩
      · refine opt_intro oy ?_
        refine And.intro hlen.symm (ck_intro (fits1 (n := k + 1) (by omega)) ?_)
        exact ⟨⟨k + 1, by omega⟩, weak_gc [0, 1] rfl ⟨rfl, rfl, rfl, rfl, ek, rfl, trivial⟩ ⟨rfl, bw_out (by rw [hb, hx]; rfl), trivial⟩, by show w - (k + 1) < w - k; omega⟩
    have h5 := ne_of_beq_false h5
    rw [if_neg h5] at hb
    refine draw_intro [(0, false), (1, false), (2, false), (3, false), (4, false), (5, false), (6, false), (7, false), (8, false), (9, false), (10, false), (11, true), (12, true)] (by decide +kernel) ?_
    refine opt_intro ox (opt_intro oy ?_)
    refine And.intro hlen.symm (ck_intro (fits1 (n := k + 1) (by omega)) ?_)
    exact ⟨⟨k + 1, by omega⟩, weak_gc [0, 1] rfl ⟨rfl, rfl, rfl, rfl, ek, rfl, trivial⟩ ⟨rfl, bw_out (by rw [hb]; cases x.testBit k <;> cases y.testBit k <;> rfl), trivial⟩, by show w - (k + 1) < w - k; omega⟩
  · have h := of_decide_eq_false h
    have hk : k = w := by omega
    subst hk
    exact And.intro ⟨rfl, rfl, by simp [LB, bitsL]⟩ rfl

/-- Moved by so many places, at most the width. -/
def shiftN (op : Int) (x w m : Nat) : Nat := if op = 7 then x * 2 ^ m else fillN (x / 2 ^ m) (w - m) w (decide (op = 9) && x.testBit (w - 1))

theorem rshift_runs {L : List T} (op : Int) (x w m : Nat) (h : L = LB (bitsL x w)) (hw1 : 1 ≤ w) (hw : w ≤ 400) (hx : x < 2 ^ w) (hm : m ≤ 1000) :
    Runs Try.prog 55 [.int .i64 op, .vec 1 L, .int .i64 (m : Int)] (oB (bitsL (shiftN op x w (min m w)) w)) := by
  subst h
  have hxl : (((LB (bitsL x w)).length : Nat) : Int) = (w : Int) := by rw [LBb_len]
  refine Runs.of_call ?_ rfl
  refine CallS.of_fn tab_ok reg_ok Try.func55 rfl rfl ?_
  have sa := sign_runs x w rfl hw1 (by omega : w ≤ 1000)
  have up : ∀ k : Nat, k ≤ w → cutL (bitsL 0 k ++ bitsL x w) ((LB (bitsL x w)).length : Int).toNat false = bitsL (x * 2 ^ k) w := fun k hk => by
    rw [append_bits, Nat.zero_mod, Nat.zero_add, Int.toNat_natCast, LBb_len, cut_bits _ _ _ (by rw [Nat.pow_add]; exact Nat.mul_lt_mul_of_pos_left hx (Nat.pow_pos (by omega))), Nat.mul_comm]
  have hc := fun (k : Nat) (hk : k ≤ w) (L : List T) (h : L = LB (bitsL 0 k ++ bitsL x w)) => cut_runs (.vec _ L h) (by rw [List.length_append, bitsL_len, bitsL_len]; omega) ((LB (bitsL x w)).length : Int) (by omega) (by rw [LBb_len]; omega) false
  have hd : ∀ k : Nat, x / 2 ^ k < 2 ^ w := fun k => Nat.lt_of_le_of_lt (Nat.div_le_self _ _) hx
  have down : ∀ (k : Nat) (f : Bool) (L : List T), k ≤ w → L = LB (bitsL (x / 2 ^ k) (w - k)) → Runs Try.prog 71 [.vec 1 L, .int .i64 ((LB (bitsL x w)).length : Int), .bool f] (oB (bitsL (fillN (x / 2 ^ k) (w - k) w f) w)) := by
    intro k f L hk hL
    rw [hxl]
    refine cut_any (x / 2 ^ k) (w - k) w f hL ?_ (by omega) (by omega)
    rw [Nat.div_lt_iff_lt_mul (Nat.pow_pos (by omega)), ← Nat.pow_add, show w - k + k = w by omega]; exact hx
  refine br_intro (fun h1 => ?_) (fun h1 => ?_)
  · have h1 := of_decide_eq_true h1
    rw [hxl] at h1
    rw [Nat.min_eq_right (by omega)]
    refine br_intro (fun h7 => ?_) (fun h7 => ?_)
    · have h7 := eq_of_beq h7
      have e : shiftN op x w w = x * 2 ^ w := by rw [shiftN, if_pos h7]
      rw [e]
      have hz := zeros_runs w (by omega)
      rw [← hxl] at hz
      refine CallS.pure hz rfl ?_
      refine And.intro rfl (ck_intro (fits1 (n := (LB (bitsL 0 w)).length + (LB (bitsL x w)).length) (by rw [LBb_len, LBb_len]; omega)) ?_)
      have hL : ((LB (bitsL 0 w) ++ LB (bitsL x w)).drop 0).take ((LB (bitsL 0 w)).length + (LB (bitsL x w)).length) = LB (bitsL 0 w ++ bitsL x w) := by
        rw [LB_append, ← List.length_append, List.drop_zero, List.take_length]
      have hcc := hc w (Nat.le_refl _) _ hL
      rw [up w (Nat.le_refl _)] at hcc
      refine CallS.snap hcc rfl (oB_flat _) ?_
      exact And.intro ⟨rfl, rfl, rfl⟩ rfl
    · have h7 := ne_of_beq_false h7
      have e : shiftN op x w w = fillN (x / 2 ^ w) (w - w) w (decide (op = 9) && x.testBit (w - 1)) := by rw [shiftN, if_neg h7]
      rw [e]
      have hp := part_bits x w w 0 (by omega)
      have hL : ((LB (bitsL x w)).drop ((LB (bitsL x w)).length : Int).toNat).take ((LB (bitsL x w)).length - ((LB (bitsL x w)).length : Int).toNat) = LB (bitsL (x / 2 ^ w) (w - w)) := by
        rw [Int.toNat_natCast, LBb_len, Nat.sub_self]; exact hp
      refine draw_intro [(0, false), (1, false), (2, false), (3, false), (4, false), (5, false), (6, false), (7, false), (8, false), (9, false), (10, true), (11, true)] (by decide +kernel) ?_
      refine ck_intro (by simp) ?_
      refine br_intro (fun h9 => ?_) (fun h9 => ?_)
      · have h9 := eq_of_beq h9
        rw [decide_eq_true h9, Bool.true_and]
        refine CallS.snap sa rfl rfl (And.intro (LeX.append _ _ _) ?_)
        refine CallS.snap (down w _ _ (Nat.le_refl _) hL) rfl (oB_flat _) ?_
        exact And.intro ⟨rfl, rfl, rfl⟩ rfl
      · have h9 := ne_of_beq_false h9
        rw [decide_eq_false h9, Bool.false_and]
        refine And.intro (LeX.refl _ _) ?_
        refine CallS.snap (down w _ _ (Nat.le_refl _) hL) rfl (oB_flat _) ?_
        exact And.intro ⟨rfl, rfl, rfl⟩ rfl
  · have h1 := of_decide_eq_false h1
    rw [hxl] at h1
    have hmw : m ≤ w := by omega
    rw [Nat.min_eq_left hmw]
    refine br_intro (fun h7 => ?_) (fun h7 => ?_)
    · have h7 := eq_of_beq h7
      have e : shiftN op x w m = x * 2 ^ m := by rw [shiftN, if_pos h7]
      rw [e]
      refine CallS.pure (zeros_runs m (by omega)) rfl ?_
      refine And.intro rfl (ck_intro (fits1 (n := (LB (bitsL 0 m)).length + (LB (bitsL x w)).length) (by rw [LBb_len, LBb_len]; omega)) ?_)
      have hL : ((LB (bitsL 0 m) ++ LB (bitsL x w)).drop 0).take ((LB (bitsL 0 m)).length + (LB (bitsL x w)).length) = LB (bitsL 0 m ++ bitsL x w) := by
        rw [LB_append, ← List.length_append, List.drop_zero, List.take_length]
      have hcc := hc m hmw _ hL
      rw [up m hmw] at hcc
      refine CallS.snap hcc rfl (oB_flat _) ?_
      exact And.intro ⟨rfl, rfl, rfl⟩ rfl
    · have h7 := ne_of_beq_false h7
      have e : shiftN op x w m = fillN (x / 2 ^ m) (w - m) w (decide (op = 9) && x.testBit (w - 1)) := by rw [shiftN, if_neg h7]
      rw [e]
      have hp := part_bits x w m (w - m) (by omega)
      have hL : ((LB (bitsL x w)).drop (m : Int).toNat).take ((LB (bitsL x w)).length - (m : Int).toNat) = LB (bitsL (x / 2 ^ m) (w - m)) := by
        rw [Int.toNat_natCast, LBb_len]; exact hp
      refine draw_intro [(0, false), (1, false), (2, false), (3, false), (4, false), (5, false), (6, false), (7, false), (8, false), (9, false), (10, true), (11, true)] (by decide +kernel) ?_
      refine ck_intro (by rw [LBb_len]; simp; omega) ?_
      refine br_intro (fun h9 => ?_) (fun h9 => ?_)
      · have h9 := eq_of_beq h9
        rw [decide_eq_true h9, Bool.true_and]
        refine CallS.snap sa rfl rfl (And.intro (LeX.append _ _ _) ?_)
        refine CallS.snap (down m _ _ hmw hL) rfl (oB_flat _) ?_
        exact And.intro ⟨rfl, rfl, rfl⟩ rfl
      · have h9 := ne_of_beq_false h9
        rw [decide_eq_false h9, Bool.false_and]
        refine And.intro (LeX.refl _ _) ?_
        refine CallS.snap (down m _ _ hmw hL) rfl (oB_flat _) ?_
        exact And.intro ⟨rfl, rfl, rfl⟩ rfl

end Go.Proofs.Ytkjhkcpgkccocaa
