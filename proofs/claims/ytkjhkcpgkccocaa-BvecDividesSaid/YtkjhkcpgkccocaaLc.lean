/-
  The document's answer on bits: sums and what is less.
-/
import Derived.Test.YtkjhkcpgkccocaaLb
namespace Go.Proofs.Ytkjhkcpgkccocaa
open Go.IntWalk
set_option maxRecDepth 100000
set_option linter.unusedVariables false
set_option linter.unusedSimpArgs false

theorem bitsL_congr {x y w : Nat} (h : x % 2 ^ w = y % 2 ^ w) : bitsL x w = bitsL y w := by
  apply List.map_congr_left
  intro i hi
  have hi := List.mem_range.1 hi
  have h1 : (x % 2 ^ w).testBit i = x.testBit i := by rw [Nat.testBit_mod_two_pow]; simp [hi]
  have h2 : (y % 2 ^ w).testBit i = y.testBit i := by rw [Nat.testBit_mod_two_pow]; simp [hi]
  rw [← h1, ← h2, h]

theorem LBb_len (x w : Nat) : (LB (bitsL x w)).length = w := by rw [LB_len, bitsL_len]
theorem LBb_get (x w k : Nat) (h : k < w) : (LB (bitsL x w))[k]? = some (.bool (x.testBit k)) := by
  simp only [LB, List.getElem?_map, bitsL_get, if_pos h]; rfl

theorem sign_runs {L : List T} (x w : Nat) (h : L = LB (bitsL x w)) (hw : 1 ≤ w) (hw2 : w ≤ 1000) : Runs Try.prog 63 [.vec 1 L] (.t (.bool (x.testBit (w - 1)))) := by
  subst h
  refine Runs.of_call ?_ rfl
  refine CallS.of_fn tab_ok reg_ok Try.func63 rfl rfl ?_
  have e : IntKind.i64.wrap (((LB (bitsL x w)).length : Int) - 1) = ((w - 1 : Nat) : Int) := by rw [LBb_len, i64_in _ (by omega)]; omega
  refine ck_intro (by rw [e]; exact idxB (by omega)) ?_
  refine opt_intro (by rw [e, Int.toNat_natCast]; exact LBb_get x w (w - 1) (by omega)) ?_
  exact And.intro rfl rfl

def someS (x w k : Nat) : St := ⟨[(5, .t (.vec 1 (LB (bitsL x w)))), (6, .t (.int .i64 w)), (7, .t (.int .i64 k))], []⟩

theorem some_runs {L : List T} (x w : Nat) (h : L = LB (bitsL x w)) (hw2 : w ≤ 1000) : Runs Try.prog 76 [.vec 1 L] (.t (.bool (decide (x % 2 ^ w ≠ 0)))) := by
  subst h
  refine Runs.of_call ?_ rfl
  refine CallS.of_fn tab_ok reg_ok Try.func76 rfl rfl ?_
  refine loop_on (fun k : Nat => k ≤ w ∧ x % 2 ^ k = 0) (someS x w) (fun k => w - k) 0 ⟨by omega, by simp [Nat.mod_one]⟩ (weak_of ⟨rfl, ?_, rfl, trivial⟩ rfl) (fun k hk => ?_)
  · exact congrArg (fun n : Nat => AV.t (.int .i64 n)) (LBb_len x w)
  obtain ⟨hk, hz⟩ := hk
  refine br_intro (fun h => ?_) (fun h => ?_)
  · have h := of_decide_eq_true h
    refine opt_intro (LBb_get x w k (by omega)) ?_
    refine br_intro (fun h2 => ?_) (fun h2 => ?_)
    · have : decide (x % 2 ^ w ≠ 0) = true := by
        refine decide_eq_true fun h0 => ?_
        have : (x % 2 ^ w).testBit k = x.testBit k := by rw [Nat.testBit_mod_two_pow]; simp; omega
        rw [h0, h2] at this
        simp at this
      rw [this]
      exact And.intro rfl rfl
    · refine ⟨⟨k + 1, by omega, ?_⟩, weak_of ⟨rfl, rfl, ?_, trivial⟩ rfl, by show w - (k + 1) < w - k; omega⟩
      · have h3 := Nat.mod_pow_succ (x := x) (b := 2) (k := k)
        rw [bit_eq] at h2
        have := of_decide_eq_false h2
        have h4 := Nat.mod_lt (x / 2 ^ k) (show 2 > 0 by omega)
        rw [h3, hz, show x / 2 ^ k % 2 = 0 by omega]; rfl
      · exact congrArg (fun x => AV.t (.int .i64 x)) (i64_in _ (by omega))
  · have h := of_decide_eq_false h
    have hk : k = w := by omega
    subst hk
    have : decide (x % 2 ^ k ≠ 0) = false := decide_eq_false (fun hh => hh hz)
    rw [this]
    exact And.intro rfl rfl

def lessS (x y w k : Nat) : St := ⟨[(0, .t (.vec 1 (LB (bitsL x w)))), (1, .t (.vec 1 (LB (bitsL y w)))), (5, .t (.int .i64 ((k : Int) - 1)))], []⟩

theorem div_bit (x k : Nat) : x / 2 ^ k = 2 * (x / 2 ^ (k + 1)) + (x.testBit k).toNat := by
  rw [bit_eq, Nat.pow_succ, ← Nat.div_div_eq_div_mul]
  by_cases h : x / 2 ^ k % 2 = 1
  · rw [decide_eq_true h]; simp; omega
  · rw [decide_eq_false h]; simp; omega

theorem lt_of_div_lt {x y p : Nat} (h : x / p < y / p) : x < y := by
  rcases Nat.lt_or_ge x y with h1 | h1
  · exact h1
  · have := Nat.div_le_div_right (c := p) h1; omega

theorem rless_runs {L L' : List T} (x y w : Nat) (h : L = LB (bitsL x w)) (h' : L' = LB (bitsL y w)) (hw2 : w ≤ 1000) (hx : x < 2 ^ w) (hy : y < 2 ^ w) : Runs Try.prog 62 [.vec 1 L, .vec 1 L'] (.t (.bool (decide (x < y)))) := by
  subst h h'
  refine Runs.of_call ?_ rfl
  refine CallS.of_fn tab_ok reg_ok Try.func62 rfl rfl ?_
  refine loop_on (fun k : Nat => k ≤ w ∧ x / 2 ^ k = y / 2 ^ k) (lessS x y w) (fun k => k) w ⟨by omega, by rw [Nat.div_eq_of_lt hx, Nat.div_eq_of_lt hy]⟩ (weak_of ⟨rfl, rfl, ?_, trivial⟩ rfl) (fun k hk => ?_)
  · exact congrArg (fun n => AV.t (.int .i64 n)) (by rw [LBb_len, i64_in _ (by omega)])
  obtain ⟨hk, hz⟩ := hk
  refine br_intro (fun h => ?_) (fun h => ?_)
  · have h := of_decide_eq_true h
    obtain ⟨m, rfl⟩ : ∃ m, k = m + 1 := ⟨k - 1, by omega⟩
    have e : (((m + 1 : Nat) : Int) - 1) = (m : Int) := by omega
    have i1 : (Nat.beq 1 1 && decide (0 ≤ (((m + 1 : Nat) : Int) - 1))) = true := idxB (by omega)
    have o1 : ∀ z : Nat, (LB (bitsL z w))[(((m + 1 : Nat) : Int) - 1).toNat]? = some (.bool (z.testBit m)) := fun z => by rw [e, Int.toNat_natCast]; exact LBb_get z w m (by omega)
    refine draw_intro [(0, false), (1, false), (2, false), (3, false), (4, false), (5, false), (6, false), (7, false), (8, false)] (by decide +kernel) ?_
    refine ck_intro i1 (opt_intro (o1 x) (ck_intro i1 (opt_intro (o1 y) ?_)))
    have dx := div_bit x m
    have dy := div_bit y m
    refine br_intro (fun h2 => ?_) (fun h2 => ?_)
    · refine ck_intro i1 (opt_intro (o1 y) ?_)
      have : decide (x < y) = y.testBit m := by
        cases hxb : x.testBit m <;> cases hyb : y.testBit m <;> rw [hxb, hyb] at h2 <;> simp at h2
        · refine decide_eq_true (lt_of_div_lt (p := 2 ^ m) ?_)
          rw [hxb] at dx; rw [hyb] at dy; simp at dx dy; omega
        · refine decide_eq_false fun hlt => ?_
          have : y < x := lt_of_div_lt (p := 2 ^ m) (by rw [hxb] at dx; rw [hyb] at dy; simp at dx dy; omega)
          omega
      rw [this]
      exact And.intro rfl rfl
    · have h2 : x.testBit m = y.testBit m := by simpa using h2
      have e4 : IntKind.i64.wrap (((m + 1 : Nat) : Int) - 1 - 1) = (m : Int) - 1 := by rw [i64_in _ (by omega)]; omega
      exact ⟨⟨m, by omega, by rw [dx, dy, hz, h2]⟩, weak_of ⟨rfl, rfl, congrArg (fun x => AV.t (.int .i64 x)) e4, trivial⟩ rfl, by show m < m + 1; omega⟩
  · have h := of_decide_eq_false h
    have hk0 : k = 0 := by omega
    subst hk0
    have : x = y := by simpa using hz
    subst this
    rw [decide_eq_false (Nat.lt_irrefl x)]
    exact And.intro rfl rfl

def radd0 (x y c k : Nat) : Nat := x % 2 ^ k + y % 2 ^ k + c

theorem radd_bound (x y c k : Nat) (hc : c ≤ 1) : radd0 x y c k < 2 * 2 ^ k := by
  have := Nat.mod_lt x (Nat.pow_pos (n := k) (show 0 < 2 by omega))
  have := Nat.mod_lt y (Nat.pow_pos (n := k) (show 0 < 2 by omega))
  unfold radd0; omega

theorem mod_succ_bit (x k : Nat) : x % 2 ^ (k + 1) = x % 2 ^ k + 2 ^ k * (x.testBit k).toNat := by
  rw [Nat.mod_pow_succ, bit_eq]
  have := Nat.mod_lt (x / 2 ^ k) (show 2 > 0 by omega)
  by_cases h : x / 2 ^ k % 2 = 1
  · rw [decide_eq_true h, h]; rfl
  · rw [decide_eq_false h, show x / 2 ^ k % 2 = 0 by omega]; rfl

/-- The carry into place k. -/
def carry (x y c k : Nat) : Nat := radd0 x y c k / 2 ^ k

theorem carry_le (x y c k : Nat) (hc : c ≤ 1) : carry x y c k ≤ 1 := by
  have h := radd_bound x y c k hc
  have := (Nat.div_lt_iff_lt_mul (Nat.pow_pos (n := k) (show 0 < 2 by omega))).2 h
  unfold carry; omega

theorem radd_succ (x y c k : Nat) : radd0 x y c (k + 1) = radd0 x y c k + 2 ^ k * ((x.testBit k).toNat + (y.testBit k).toNat) := by
  unfold radd0
  rw [mod_succ_bit x k, mod_succ_bit y k, Nat.mul_add]; omega

/-- The number of ones at a place. -/
def ones (x y c k : Nat) : Nat := (x.testBit k).toNat + (y.testBit k).toNat + carry x y c k

theorem radd_div (x y c k : Nat) : radd0 x y c (k + 1) / 2 ^ k = ones x y c k := by
  rw [radd_succ, Nat.add_mul_div_left _ _ (Nat.pow_pos (by omega))]
  unfold ones carry; omega

theorem carry_succ (x y c k : Nat) : carry x y c (k + 1) = ones x y c k / 2 := by
  unfold carry; rw [Nat.pow_succ, ← Nat.div_div_eq_div_mul, radd_div]

theorem ones_le (x y c k : Nat) (hc : c ≤ 1) : ones x y c k ≤ 3 := by
  have := carry_le x y c k hc
  have h1 : (x.testBit k).toNat ≤ 1 := by cases x.testBit k <;> simp
  have h2 : (y.testBit k).toNat ≤ 1 := by cases y.testBit k <;> simp
  unfold ones; omega

theorem sum_bit (x y c k : Nat) : (x + y + c).testBit k = decide (ones x y c k % 2 = 1) := by
  rw [bit_eq, decide_eq_decide]
  have e : (x + y + c) / 2 ^ k % 2 = radd0 x y c (k + 1) / 2 ^ k % 2 := by
    have h1 : (x + y + c) % 2 ^ (k + 1) = radd0 x y c (k + 1) % 2 ^ (k + 1) := by
      unfold radd0; rw [Nat.add_mod (x % _ + y % _), ← Nat.add_mod x y, ← Nat.add_mod]
    have h2 : ∀ z : Nat, z / 2 ^ k % 2 = z % 2 ^ (k + 1) / 2 ^ k := fun z => by
      rw [Nat.pow_succ]; exact (Nat.mod_mul_right_div_self z (2 ^ k) 2).symm
    rw [h2, h2, h1]
  rw [e, radd_div]

def addS (x y w c k : Nat) : St :=
  ⟨[(0, .t (.vec 1 (LB (bitsL x w)))), (1, .t (.vec 1 (LB (bitsL y w)))), (2, .t (.bool (decide (carry x y c k = 1)))), (14, .t (.int .i64 w)), (15, .t (.int .i64 k)), (7, .sl 1 0 0 k)],
   [.arr tB 1 true 0 (.ts []), .arr tB 1 false 0 (.ts (LB (bitsL (x + y + c) k)))]⟩

theorem add_leaf {x y c k : Nat} {p q r : Bool} (hc : c ≤ 1) (hx : x.testBit k = p) (hy : y.testBit k = q) (hr : decide (carry x y c k = 1) = r) :
    (x + y + c).testBit k = ((p != q) != r) ∧ decide (carry x y c (k + 1) = 1) = (p && q || p && r || q && r) := by
  have hl := carry_le x y c k hc
  have hcv : carry x y c k = r.toNat := by
    cases r
    · have := of_decide_eq_false hr; simp; omega
    · have := of_decide_eq_true hr; simp; omega
  rw [sum_bit, carry_succ, ones, hx, hy, hcv]
  cases p <;> cases q <;> cases r <;> exact ⟨rfl, rfl⟩

theorem add_out {x y c k : Nat} {b : Bool} (h : (x + y + c).testBit k = b) : some (Blk.arr tB 1 false 0 (.ts (LB (bitsL (x + y + c) k) ++ [.bool b]))) = some (Blk.arr tB 1 false 0 (.ts (LB (bitsL (x + y + c) (k + 1))))) := by
  rw [bitsL_succ, LB_snoc, h]

theorem radd_runs {L L' : List T} (x y w c : Nat) (h : L = LB (bitsL x w)) (h' : L' = LB (bitsL y w)) (hw2 : w ≤ 1000) (cb : Bool) (hcb : c = cb.toNat) :
    Runs Try.prog 56 [.vec 1 L, .vec 1 L', .bool cb] (oB (bitsL (x + y + c) w)) := by
  subst h h'
  have hc : c ≤ 1 := by cases cb <;> simp at hcb <;> omega
  refine Runs.of_call ?_ rfl
  refine CallS.of_fn tab_ok reg_ok Try.func56 rfl rfl ?_
  refine loop_on (fun k : Nat => k ≤ w) (addS x y w c) (fun k => w - k) 0 (by omega) (weak_of ⟨rfl, rfl, ?_, ?_, rfl, rfl, trivial⟩ rfl) (fun k hk => ?_)
  · have : decide (carry x y c 0 = 1) = cb := by
      have e : carry x y c 0 = c := by simp [carry, radd0, Nat.mod_one]
      rw [e, hcb]; cases cb <;> rfl
    exact congrArg (fun b => AV.t (.bool b)) this.symm
  · exact congrArg (fun n : Nat => AV.t (.int .i64 n)) (LBb_len x w)
  refine br_intro (fun h => ?_) (fun h => ?_)
  · have h := of_decide_eq_true h
    have hlen : (LB (bitsL (x + y + c) k)).length = k := LBb_len _ _
    have ek : some (AV.t (.int .i64 (IntKind.i64.wrap ((k : Int) + 1)))) = some (AV.t (.int .i64 ((k + 1 : Nat) : Int))) := congrArg (fun x => some (AV.t (.int .i64 x))) (i64_in _ (by omega))
    refine draw_intro [(0, false), (1, false), (2, false), (3, false), (4, false), (5, false), (6, false), (7, false), (8, false), (9, false), (10, false)] (by decide +kernel) ?_
    refine opt_intro (LBb_get x w k (by omega)) (opt_intro (LBb_get y w k (by omega)) ?_)
    refine loop_un 4 ?_
    refine br_intro (fun hx => ?_) (fun hx => ?_)
    all_goals refine br_intro (fun hy => ?_) (fun hy => ?_)
    all_goals refine br_intro (fun hr => ?_) (fun hr => ?_)
    all_goals
      obtain ⟨e1, e2⟩ := add_leaf hc hx hy hr
      refine And.intro hlen.symm (ck_intro (fits1 (n := k + 1) (by omega)) ?_)
      exact ⟨⟨k + 1, by omega⟩, weak_gc [0, 1] rfl ⟨rfl, rfl, congrArg (fun b => some (AV.t (.bool b))) e2.symm, rfl, ek, rfl, trivial⟩ ⟨rfl, add_out e1, trivial⟩, by show w - (k + 1) < w - k; omega⟩
  · have h := of_decide_eq_false h
    have hk : k = w := by omega
    subst hk
    exact And.intro ⟨rfl, rfl, by simp [LB, bitsL]⟩ rfl

end Go.Proofs.Ytkjhkcpgkccocaa
