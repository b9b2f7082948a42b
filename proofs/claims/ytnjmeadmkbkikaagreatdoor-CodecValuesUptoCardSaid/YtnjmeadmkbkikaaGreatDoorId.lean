/-
  A codec's patterns as data; a word's bits; the tree that finds forms (plain law and the walk of a word's bit).
-/
import Derived.Test.YtnjmeadmkbkikaaGreatDoorIb
namespace Go.Proofs.YtnjmeadmkbkikaaGreatDoor
open Go.IntWalk
set_option maxRecDepth 100000
set_option linter.unusedVariables false
set_option linter.unusedSimpArgs false
set_option maxHeartbeats 1000000

/-- A bit of a word of 128. -/
def bit2 (w0 w1 p : Nat) : Bool := if p < 64 then w0.testBit p else w1.testBit (p - 64)
theorem nat_bit {w k : Nat} : w / 2 ^ k % 2 = if w.testBit k then 1 else 0 := by
  rw [← Nat.shiftRight_eq_div_pow]
  have : w.testBit k = (1 &&& (w >>> k) != 0) := rfl
  rw [this, Nat.and_comm, Nat.and_one_is_mod]
  have := Nat.mod_lt (w >>> k) (show 2 > 0 by decide)
  rcases Nat.lt_or_ge (w >>> k % 2) 1 with h | h
  · have e : w >>> k % 2 = 0 := by omega
    rw [e]; rfl
  · have e : w >>> k % 2 = 1 := by omega
    rw [e]; rfl
def wordT (w0 w1 : Nat) : T := .agg [.int .u64 w0, .int .u64 w1]
def b01 (b : Bool) : Int := if b then 1 else 0

theorem get_runs (w0 w1 : Nat) (h0 : w0 < 18446744073709551616) (h1 : w1 < 18446744073709551616) (p : Nat) (hp : p < 128) : Runs Tryz.prog 43 [wordT w0 w1, .int .i64 p] (.t (.int .u64 (b01 (bit2 w0 w1 p)))) := by
  refine Runs.of_call ?_ rfl
  refine CallS.of_fn tabS_ok regS_ok Tryz.func43 rfl rfl ?_
  by_cases h : p < 64
  · obtain ⟨q, hq⟩ : ∃ q, q = w0 / 2 ^ p := ⟨_, rfl⟩
    have hql : q ≤ w0 := by rw [hq]; exact Nat.div_le_self _ _
    have e : q % 2 = if bit2 w0 w1 p then 1 else 0 := by rw [hq, nat_bit, bit2, if_pos h]
    refine ck_intro rfl ?_
    refine st_intro (n := 0) (show IntKind.i64.wrap (((p : Nat) : Int).tdiv 64) = 0 from by rw [Int.tdiv_eq_ediv_of_nonneg (by omega), IntKind.wrap_i64]; omega) ?_
    refine ck_intro rfl ?_
    refine st_intro (n := ((p : Nat) : Int)) (show ((p : Nat) : Int).tmod 64 = _ from by rw [Int.tmod_eq_emod_of_nonneg (by omega)]; omega) ?_
    refine ck_intro (decide_eq_true (show (0 : Int) ≤ ((p : Nat) : Int) by omega)) ?_
    refine st_intro (n := ((q : Nat) : Int)) (show ((w0 : Nat) : Int).fdiv (2 ^ (min ((p : Nat) : Int).toNat IntKind.u64.bits)) = _ from by
      rw [Int.toNat_natCast, Nat.min_eq_left (show p ≤ IntKind.u64.bits by show _ ≤ 64; omega), ← int_pow, Int.fdiv_eq_ediv_of_nonneg _ (Int.natCast_nonneg _), ← Int.natCast_ediv, hq]) ?_
    refine st_intro (n := b01 (bit2 w0 w1 p)) (show bitsOp .and .u64 ((q : Nat) : Int) ((1 : Nat) : Int) = _ from by
      rw [u64and (by omega) (by decide), Nat.and_one_is_mod, e]; unfold b01; cases bit2 w0 w1 p <;> rfl) ?_
    exact And.intro rfl rfl
  · obtain ⟨k, hk⟩ : ∃ k, p = 64 + k := ⟨p - 64, by omega⟩
    obtain ⟨q, hq⟩ : ∃ q, q = w1 / 2 ^ k := ⟨_, rfl⟩
    have hql : q ≤ w1 := by rw [hq]; exact Nat.div_le_self _ _
    have e : q % 2 = if bit2 w0 w1 p then 1 else 0 := by rw [hq, nat_bit, bit2, if_neg h, show p - 64 = k by omega]
    refine ck_intro rfl ?_
    refine st_intro (n := 1) (show IntKind.i64.wrap (((p : Nat) : Int).tdiv 64) = 1 from by rw [Int.tdiv_eq_ediv_of_nonneg (by omega), IntKind.wrap_i64]; omega) ?_
    refine ck_intro rfl ?_
    refine st_intro (n := ((k : Nat) : Int)) (show ((p : Nat) : Int).tmod 64 = _ from by rw [Int.tmod_eq_emod_of_nonneg (by omega)]; omega) ?_
    refine ck_intro (decide_eq_true (show (0 : Int) ≤ ((k : Nat) : Int) by omega)) ?_
    refine st_intro (n := ((q : Nat) : Int)) (show ((w1 : Nat) : Int).fdiv (2 ^ (min ((k : Nat) : Int).toNat IntKind.u64.bits)) = _ from by
      rw [Int.toNat_natCast, Nat.min_eq_left (show k ≤ IntKind.u64.bits by show _ ≤ 64; omega), ← int_pow, Int.fdiv_eq_ediv_of_nonneg _ (Int.natCast_nonneg _), ← Int.natCast_ediv, hq]) ?_
    refine st_intro (n := b01 (bit2 w0 w1 p)) (show bitsOp .and .u64 ((q : Nat) : Int) ((1 : Nat) : Int) = _ from by
      rw [u64and (by omega) (by decide), Nat.and_one_is_mod, e]; unfold b01; cases bit2 w0 w1 p <;> rfl) ?_
    exact And.intro rfl rfl
theorem get_one {w0 w1 : Nat} (h0 : w0 < 18446744073709551616) (h1 : w1 < 18446744073709551616) {p : Nat} (hp : p < 128) (h : bit2 w0 w1 p = true) : Runs Tryz.prog 43 [wordT w0 w1, .int .i64 p] (.t (.int .u64 1)) := by
  have := get_runs w0 w1 h0 h1 p hp
  rwa [h] at this
theorem get_zero {w0 w1 : Nat} (h0 : w0 < 18446744073709551616) (h1 : w1 < 18446744073709551616) {p : Nat} (hp : p < 128) (h : bit2 w0 w1 p = false) : Runs Tryz.prog 43 [wordT w0 w1, .int .i64 p] (.t (.int .u64 0)) := by
  have := get_runs w0 w1 h0 h1 p hp
  rwa [h] at this

/-- A form's pattern. -/
structure PatD where
  sz : Nat
  m0 : Nat
  m1 : Nat
  w0 : Nat
  w1 : Nat
  lz : Bool
  rows : List (List Int)
def PatD.t (p : PatD) : T := madeT p.sz p.m0 p.m1 p.w0 p.w1 p.lz p.rows
def PatD.wf (p : PatD) : Prop := p.m0 < 18446744073709551616 ∧ p.m1 < 18446744073709551616 ∧ p.w0 < 18446744073709551616 ∧ p.w1 < 18446744073709551616
/-- Do the bits of a word agree with a pattern? -/
def PatD.fits (p : PatD) (W : Nat → Bool) : Prop := ∀ q, q < 120 → bit2 p.m0 p.m1 q = true → W q = bit2 p.w0 p.w1 q

/-- The tree that finds forms. -/
inductive TreeD where
  | leaf (F : List Nat)
  | fork (p : Nat) (l r : TreeD)
def natsT (F : List Nat) : List T := F.map fun n : Nat => T.int .i64 n
def TreeD.t : TreeD → T
  | .leaf F => .iptr [.int .i64 (-1), .nilp, .nilp, .vecd 1 (natsT F)]
  | .fork p l r => .iptr [.int .i64 p, l.t, r.t, .vecd 1 []]
def TreeD.find : TreeD → (Nat → Bool) → List Nat
  | .leaf F, _ => F
  | .fork p l r, W => if W p then r.find W else l.find W
def TreeD.ok : TreeD → Prop
  | .leaf _ => True
  | .fork p l r => p < 120 ∧ l.ok ∧ r.ok
/-- It finds all of some forms that agree with a word, and no others. -/
structure Finds (P : List PatD) (F : List Nat) (t : TreeD) : Prop where
  ok : t.ok
  all : ∀ W f p, f ∈ F → P[f]? = some p → p.fits W → f ∈ t.find W
  only : ∀ W f, f ∈ t.find W → f ∈ F
theorem Finds.leaf (P : List PatD) (F : List Nat) : Finds P F (.leaf F) := ⟨trivial, fun W f p h _ _ => h, fun W f h => h⟩
/-- The forms of a side. -/
def sideOf (P : List PatD) (q : Nat) (b : Bool) (F : List Nat) : List Nat := F.filter fun f => match P[f]? with | some p => !bit2 p.m0 p.m1 q || bit2 p.w0 p.w1 q == b | none => false
theorem Finds.fork {P : List PatD} {F : List Nat} {q : Nat} {l r : TreeD} (hq : q < 120) (hl : Finds P (sideOf P q false F) l) (hr : Finds P (sideOf P q true F) r) : Finds P F (.fork q l r) := by
  refine ⟨⟨hq, hl.ok, hr.ok⟩, fun W f p hf hp hw => ?_, fun W f hf => ?_⟩
  · have key : ∀ b, W q = b → f ∈ sideOf P q b F := fun b hb => by
      unfold sideOf
      rw [List.mem_filter]
      refine ⟨hf, ?_⟩
      rw [hp]
      cases hm : bit2 p.m0 p.m1 q with
      | false => simp [hm]
      | true => have := hw q hq hm; simp [hm, ← this, hb]
    unfold TreeD.find
    cases hb : W q with
    | false => rw [if_neg (by simp)]; exact hl.all W f p (key false hb) hp hw
    | true => rw [if_pos rfl]; exact hr.all W f p (key true hb) hp hw
  · unfold TreeD.find at hf
    split at hf
    · exact (List.mem_filter.1 (hr.only W f hf)).1
    · exact (List.mem_filter.1 (hl.only W f hf)).1

end Go.Proofs.YtnjmeadmkbkikaaGreatDoor
