/-
  The library's stable sort, over a row of the walk's own: no element is new, none is lost by number.
-/
import Derived.Test.YthdgpfegjdfpkaaMa
namespace Go.Proofs.Ythdgpfegjdfpkaa
open Go.IntWalk
set_option maxRecDepth 100000
set_option linter.unusedVariables false
set_option linter.unusedSimpArgs false
set_option maxHeartbeats 2000000

def ord_ins_4 : Ord := (.op 0 [] (.op 1 [0] (.op 2 [] (.op 3 [] (.op 4 [] (.op 5 [4] (.op 6 [5, 4] (.op 7 [4] (.op 8 [4] (.op 9 [8, 7, 6, 5, 4] (.op 10 [9, 8, 7, 6, 5, 4] (.op 11 [9, 8, 7, 6, 5, 4] (.op 12 [8, 7, 6, 5, 4] (.op 13 [8, 7, 6, 5, 4] (.op 14 [] (.op 15 [] (.op 16 [] .nil)))))))))))))))))
def ord_ins_6 : Ord := (.op 0 [] (.op 1 [0] (.op 2 [1, 0] (.op 3 [2, 1, 0] (.op 4 [2, 1, 0] (.op 5 [4, 3, 2, 1, 0] (.op 6 [5, 4, 3, 2, 1, 0] (.op 7 [5, 4, 3, 2, 1, 0] (.op 8 [4, 3, 2, 1, 0] (.op 9 [4, 3, 2, 1, 0] (.op 10 [9, 8, 7, 6, 5, 4, 3, 2, 1, 0] (.op 11 [10, 9, 8, 7, 6, 5, 4, 3, 2, 1, 0] (.op 12 [9, 8, 7, 6, 5, 4, 3, 2, 1, 0] (.op 13 [9, 8, 7, 6, 5, 4, 3, 2, 1, 0] (.op 14 [4, 3, 2] (.op 15 [4, 3, 2] (.op 16 [] (.op 17 [] .nil))))))))))))))))))
def ord_sym_5 : Ord := (.op 0 [] (.op 1 [0] (.op 2 [1, 0] (.op 3 [0] (.op 4 [0] (.op 5 [4, 3, 2, 1, 0] (.op 6 [5, 4, 3, 2, 1, 0] (.op 7 [4, 3, 2, 1, 0] (.op 8 [4, 3, 2, 1, 0] (.op 9 [] (.op 10 [] .nil)))))))))))
def ord_sym_11 : Ord := (.op 0 [] (.op 1 [0] (.op 2 [1, 0] (.op 3 [2, 1, 0] (.op 4 [2, 1, 0] (.op 5 [4, 3, 2, 1, 0] (.op 6 [5, 4, 3, 2, 1, 0] (.op 7 [5, 4, 3, 2, 1, 0] (.op 8 [4, 3, 2, 1, 0] (.op 9 [4, 3, 2, 1, 0] (.op 10 [9, 8, 7, 6, 5, 4, 3, 2, 1, 0] (.op 11 [10, 9, 8, 7, 6, 5, 4, 3, 2, 1, 0] (.op 12 [9, 8, 7, 6, 5, 4, 3, 2, 1, 0] (.op 13 [9, 8, 7, 6, 5, 4, 3, 2, 1, 0] (.op 14 [4, 3, 2] (.op 15 [4, 3, 2] (.op 16 [] (.op 17 [] .nil))))))))))))))))))
def ord_sym_17 : Ord := (.op 0 [] (.op 1 [0] (.op 2 [1, 0] (.op 3 [0] (.op 4 [0] (.op 5 [4, 3, 2, 1, 0] (.op 6 [5, 4, 3, 2, 1, 0] (.op 7 [4, 3, 2, 1, 0] (.op 8 [4, 3, 2, 1, 0] (.op 9 [] (.op 10 [] (.op 11 [] .nil))))))))))))
def ord_sym_23 : Ord := (.op 0 [] (.op 1 [0] (.op 2 [1, 0] (.op 3 [2, 1, 0] (.op 4 [2, 1, 0] (.op 5 [4, 3, 2, 1, 0] (.op 6 [5, 4, 3, 2, 1, 0] (.op 7 [5, 4, 3, 2, 1, 0] (.op 8 [4, 3, 2, 1, 0] (.op 9 [4, 3, 2, 1, 0] (.op 10 [9, 8, 7, 6, 5, 4, 3, 2, 1, 0] (.op 11 [10, 9, 8, 7, 6, 5, 4, 3, 2, 1, 0] (.op 12 [9, 8, 7, 6, 5, 4, 3, 2, 1, 0] (.op 13 [9, 8, 7, 6, 5, 4, 3, 2, 1, 0] (.op 14 [4, 3, 2] (.op 15 [4, 3, 2] (.op 16 [] (.op 17 [] .nil))))))))))))))))))
def ord_sym_35 : Ord := (.op 0 [] (.op 1 [0] (.op 2 [1, 0] (.op 3 [2, 1, 0] (.op 4 [1, 0] (.op 5 [0] (.op 6 [0] (.op 7 [6, 5, 4, 3, 2, 1, 0] (.op 8 [7, 6, 5, 4, 3, 2, 1, 0] (.op 9 [6, 5, 4, 3, 2, 1, 0] (.op 10 [6, 5, 4, 3, 2, 1, 0] (.op 11 [] (.op 12 [] (.op 13 [] .nil))))))))))))))
def ord_swp_3 : Ord := (.op 0 [] (.op 1 [0] (.op 2 [1, 0] (.op 3 [0] (.op 4 [3, 2, 1, 0] (.op 5 [4, 3, 2, 1, 0] (.op 6 [5, 4, 3, 2, 1, 0] (.op 7 [4, 3, 2, 1, 0] (.op 8 [7, 6, 5, 4, 3, 2, 1, 0] (.op 9 [8, 7, 6, 5, 4, 3, 2, 1, 0] (.op 10 [9, 8, 7, 6, 5, 4, 3, 2, 1, 0] (.op 11 [8, 7, 6, 5, 4, 3, 2, 1, 0] (.op 12 [7, 6, 5, 4, 3, 2, 1, 0] (.op 13 [7, 6, 5, 4, 3, 2, 1, 0] (.op 14 [13, 12, 11, 10, 9, 8, 7, 6, 5, 4, 3, 2, 1, 0] (.op 15 [14, 13, 12, 11, 10, 9, 8, 7, 6, 5, 4, 3, 2, 1, 0] (.op 16 [15, 14, 13, 12, 11, 10, 9, 8, 7, 6, 5, 4, 3, 2, 1, 0] (.op 17 [14, 13, 12, 11, 10, 9, 8, 7, 6, 5, 4, 3, 2, 1, 0] (.op 18 [13, 12, 11, 10, 9, 8, 7, 6, 5, 4, 3, 2, 1, 0] (.op 19 [13, 12, 11, 10, 9, 8, 7, 6, 5, 4, 3, 2, 1, 0] (.op 20 [7, 6, 5, 4] (.op 21 [7, 6, 5, 4] (.op 22 [] (.op 23 [] .nil))))))))))))))))))))))))

/-- The same number of elements, none of them new. -/
structure Pm {α : Type} (R R' : List α) : Prop where
  len : R'.length = R.length
  mem : ∀ r ∈ R', r ∈ R
theorem Pm.refl {α : Type} (R : List α) : Pm R R := ⟨rfl, fun _ h => h⟩
theorem Pm.trans {α : Type} {A B C : List α} (h : Pm A B) (k : Pm B C) : Pm A C := ⟨k.len.trans h.len, fun r hr => h.mem r (k.mem r hr)⟩
def swapL {α : Type} (R : List α) (i j : Nat) (x y : α) : List α := (R.set i x).set j y
theorem Pm.swap {α : Type} {R : List α} {i j : Nat} {x y : α} (hx : x ∈ R) (hy : y ∈ R) : Pm R (swapL R i j x y) :=
  ⟨by simp [swapL], fun r hr => by
    rcases List.mem_or_eq_of_mem_set hr with h | h
    · rcases List.mem_or_eq_of_mem_set h with h | h
      · exact h
      · rw [h]; exact hx
    · rw [h]; exact hy⟩
theorem swapL_map {α β : Type} (f : α → β) (R : List α) (i j : Nat) (x y : α) : ((R.map f).set i (f x)).set j (f y) = (swapL R i j x y).map f := by simp [swapL, List.map_set]
theorem get_some {α : Type} {R : List α} {i : Nat} (h : i < R.length) : ∃ x, R[i]? = some x ∧ x ∈ R := ⟨R[i], List.getElem?_eq_getElem h, List.getElem_mem h⟩
theorem map_get0 {α β : Type} {f : α → β} {l : List α} {i : Nat} {a : α} (h : l[i]? = some a) : (l.map f)[0 + i]? = some (f a) := by rw [Nat.zero_add, List.getElem?_map, h]; rfl
theorem map_get1 {α β : Type} {f : α → β} {l : List α} {i j : Nat} {a : α} {b : β} (h : l[i]? = some a) (hn : j ≠ i) : ((l.map f).set (0 + j) b)[0 + i]? = some (f a) := by
  rw [Nat.zero_add, Nat.zero_add, List.getElem?_set_ne hn, List.getElem?_map, h]; rfl
theorem inB0 {i n : Nat} {b : Bool} (hb : b = true) (h : i < n) : (b && inB (i : Int) n) = true := by rw [hb]; simp [inB]; omega
theorem nat_in {n : Nat} (h : n ≤ 9223372036854775807) : IntKind.i64.wrap (n : Int) = n := by rw [IntKind.wrap_i64]; omega
theorem nat_inu {n : Nat} (h : n ≤ 9223372036854775807) : IntKind.u64.wrap (n : Int) = n := by rw [IntKind.wrap_u64]; omega
theorem nat_sub {a b c : Nat} (h : a + b = c) (hc : c ≤ 9223372036854775807) : IntKind.i64.wrap ((c : Int) - (b : Int)) = a := by rw [IntKind.wrap_i64]; omega
theorem half_u {n : Nat} (h : n ≤ 9223372036854775807) : (n : Int).fdiv (2 ^ min (Int.toNat 1) IntKind.u64.bits) = ((n / 2 : Nat) : Int) := by
  rw [show ((2 : Int) ^ min (Int.toNat 1) IntKind.u64.bits) = 2 from rfl, Int.fdiv_eq_ediv_of_nonneg _ (by decide)]; omega
theorem eq_yes {a b : Nat} (h : a = b) : ((a : Int) == (b : Int)) = true := by simp [h]
theorem eq_no {a b : Nat} (h : a ≠ b) : ((a : Int) == (b : Int)) = false := by simp; omega
theorem dlt {a b : Nat} (c : decide ((a : Int) < (b : Int)) = true) : a < b := by have := of_decide_eq_true c; omega
theorem dge {a b : Nat} (c : decide ((a : Int) < (b : Int)) = false) : b ≤ a := by have := of_decide_eq_false c; omega
theorem dgt {a b : Nat} (c : decide ((a : Int) > (b : Int)) = true) : b < a := by have := of_decide_eq_true c; omega
theorem dle {a b : Nat} (c : decide ((a : Int) > (b : Int)) = false) : a ≤ b := by have := of_decide_eq_false c; omega

/-- A loop, whatever comes behind it. -/
theorem loop_then {k0 : Nat} {body : (Ex → St → Prop) → St → Prop} {Q : Ex → St → Prop} {s : St} (J : Ex → St → Prop) (h : ∀ Q', (∀ e s', J e s' → Q' e s') → LoopU k0 body Q' s) (hJ : ∀ e s', J e s' → Q e s') : LoopU k0 body Q s := h Q hJ

theorem draw_introXS {ops : Array Oper} {s : St} {K : St → Prop} (D : Nat → List Nat) (σ : Ord) (h : drawOK ops (masks ops) σ [] [] = true) (k : xdr tabS (CallS Try.prog) ops D σ s K) : regS ops s K := ⟨D, σ, h, k⟩
def dSw (l : List Nat) (j : Nat) : List Nat := if l.contains j then [1] else []
abbrev cmpF : AV := .t (.fn (.func 14) [] [])
abbrev tEl : Nat := 41
/-- The memory over which a sort runs: the row to be sorted is the second block. -/
def srtH (N : Nat) (R : List RegD) : AH := [.box [.sl 1 0 0 N], .arr tEl 3 true 0 (.ts (R.map regT))]
def SrtQ (N : Nat) (R : List RegD) (r : AV) (H' : AH) : Prop := r = .tup [] ∧ ∃ R', Pm R R' ∧ H' = srtH N R'

theorem isNaN_runs (n : Int) : Runs Try.prog 19 [.int .u64 n] (.t (.bool false)) := by
  refine Runs.of_call ?_ rfl
  refine CallS.of_fn tabS_ok regS_ok Try.func19 rfl rfl ?_
  exact And.intro (congrArg (fun b => some (T.bool b)) (by simp)) rfl

theorem compare_runs (n m : Int) : ∃ c : Int, Runs Try.prog 15 [.int .u64 n, .int .u64 m] (.t (.int .i64 c)) := by
  have key : ∀ c : Int, (c = if n < m then -1 else if n > m then 1 else 0) → Runs Try.prog 15 [.int .u64 n, .int .u64 m] (.t (.int .i64 c)) := by
    intro c hc
    refine Runs.of_call ?_ rfl
    refine CallS.of_fn tabS_ok regS_ok Try.func15 rfl rfl ?_
    refine CallS.pure (isNaN_runs n) rfl ?_
    refine CallS.pure (isNaN_runs m) rfl ?_
    refine br_intro (fun c1 => ?_) (fun c1 => ?_)
    · exact And.intro (congrArg (fun b => some (T.int .i64 b)) (by rw [hc, if_pos (of_decide_eq_true c1)])) rfl
    refine br_intro (fun c2 => ?_) (fun c2 => ?_)
    · exact And.intro (congrArg (fun b => some (T.int .i64 b)) (by rw [hc, if_neg (of_decide_eq_false c1), if_pos (of_decide_eq_true c2)])) rfl
    · exact And.intro (congrArg (fun b => some (T.int .i64 b)) (by rw [hc, if_neg (of_decide_eq_false c1), if_neg (of_decide_eq_false c2)])) rfl
  exact ⟨_, key _ rfl⟩

theorem cmp_runs (x y : RegD) : ∃ c : Int, Runs Try.prog 14 [regT x, regT y] (.t (.int .i64 c)) := by
  obtain ⟨c, hc⟩ := compare_runs (x.at_ : Int) (y.at_ : Int)
  refine ⟨c, ?_⟩
  refine Runs.of_call ?_ rfl
  refine CallS.of_fn tabS_ok regS_ok Try.func14 rfl rfl ?_
  refine CallS.pure hc rfl ?_
  exact And.intro rfl rfl

theorem swap_calls (N : Nat) (R : List RegD) (hN : R.length = N) (a b n : Nat) (hl : N ≤ 1000000) (ha : a + n ≤ b) (hb : b + n ≤ N) :
    CallS Try.prog 26 [.sl 1 0 0 N, .t (.int .i64 a), .t (.int .i64 b), .t (.int .i64 n), cmpF] (srtH N R) (SrtQ N R) := by
  refine CallS.of_fn tabS_ok regS_ok Try.func26 rfl rfl ?_
  refine loop_on (fun s : Nat × List RegD => s.1 ≤ n ∧ Pm R s.2) (fun s => ⟨[(0, .sl 1 0 0 N), (1, .t (.int .i64 a)), (2, .t (.int .i64 b)), (3, .t (.int .i64 n)), (10, .t (.int .i64 s.1))], srtH N s.2⟩)
    (fun s => n - s.1) (0, R) ⟨Nat.zero_le _, .refl R⟩ ?_ (fun ⟨i, R1⟩ hi => ?_)
  · exact weak_of ⟨rfl, rfl, rfl, rfl, rfl, trivial⟩ rfl
  obtain ⟨hi, hp⟩ := hi
  have hl1 : R1.length = R.length := hp.len
  have hp : Pm R R1 := hp
  have hi : i ≤ n := hi
  refine br_intro (fun c => ?_) (fun c => ?_)
  · have c : i < n := dlt c
    obtain ⟨x, hx, hxm⟩ := get_some (R := R1) (i := a + i) (by omega)
    obtain ⟨y, hy, hym⟩ := get_some (R := R1) (i := b + i) (by omega)
    refine draw_introXS (dSw [4, 5, 6, 7]) ord_swp_3 (by decide +kernel) ?_
    refine st_intro (n := ((a + i : Nat) : Int)) (nat_in (n := a + i) (by omega)) ?_
    refine st_intro (n := ((b + i : Nat) : Int)) (nat_in (n := b + i) (by omega)) ?_
    refine st_intro (n := ((b + i : Nat) : Int)) (nat_in (n := b + i) (by omega)) ?_
    refine ck_intro (inB0 rfl (by omega)) ?_
    refine opt_intro (map_get0 hy) ?_
    refine st_intro (n := ((a + i : Nat) : Int)) (nat_in (n := a + i) (by omega)) ?_
    refine ck_intro (inB0 rfl (by omega)) ?_
    refine opt_intro (map_get0 hx) ?_
    refine ck_intro (inB0 rfl (by omega)) ?_
    refine opt_intro (map_get0 hx) ?_
    conv => whnf
    refine And.intro (fun j hj => by
      simp only [List.mem_cons, List.not_mem_nil, or_false] at hj
      rcases hj with rfl | rfl | rfl | rfl <;> exact LeX.set _ (List.mem_singleton.2 rfl)) ?_
    refine ck_intro (inB0 rfl (by omega)) ?_
    refine opt_intro (map_get1 hy (by omega)) ?_
    conv => whnf
    refine And.intro (fun j hj => by cases hj) ?_
    conv => whnf
    refine st_intro (n := ((i + 1 : Nat) : Int)) (nat_in (n := i + 1) (by omega)) ?_
    conv => whnf
    refine ⟨⟨(i + 1, swapL R1 (a + i) (b + i) y x), ⟨c, hp.trans (.swap hym hxm)⟩⟩, weak_of ⟨rfl, rfl, rfl, rfl, rfl, trivial⟩ ?_, by show n - (i + 1) < n - i; omega⟩
    show [_, Blk.arr tEl 3 true 0 (.ts (((R1.map regT).set (0 + (a + i)) (regT y)).set (0 + (b + i)) (regT x)))] = _
    rw [Nat.zero_add, Nat.zero_add, swapL_map]
    rfl
  · exact ⟨rfl, R1, hp, rfl⟩

theorem rotate_calls (N : Nat) (R : List RegD) (hN : R.length = N) (a m b : Nat) (hl : N ≤ 1000000) (h1 : a < m) (h2 : m < b) (h3 : b ≤ N) :
    CallS Try.prog 25 [.sl 1 0 0 N, .t (.int .i64 a), .t (.int .i64 m), .t (.int .i64 b), cmpF] (srtH N R) (SrtQ N R) := by
  refine CallS.of_fn tabS_ok regS_ok Try.func25 rfl rfl ?_
  refine st_intro (n := ((m - a : Nat) : Int)) (nat_sub (a := m - a) (b := a) (c := m) (by omega) (by omega)) ?_
  refine st_intro (n := ((b - m : Nat) : Int)) (nat_sub (a := b - m) (b := m) (c := b) (by omega) (by omega)) ?_
  refine loop_on (fun s : Nat × Nat × List RegD => 1 ≤ s.1 ∧ s.1 ≤ m - a ∧ 1 ≤ s.2.1 ∧ s.2.1 ≤ b - m ∧ Pm R s.2.2) (fun s => ⟨[(0, .sl 1 0 0 N), (1, .t (.int .i64 a)), (2, .t (.int .i64 m)), (3, .t (.int .i64 b)), (4, cmpF), (10, .t (.int .i64 s.1)), (11, .t (.int .i64 s.2.1))], srtH N s.2.2⟩)
    (fun s => s.1 + s.2.1) (m - a, b - m, R) ⟨by show 1 ≤ m - a; omega, by show m - a ≤ m - a; omega, by show 1 ≤ b - m; omega, by show b - m ≤ b - m; omega, .refl R⟩ ?_ (fun ⟨i, j, R1⟩ hi => ?_)
  · exact weak_of ⟨rfl, rfl, rfl, rfl, rfl, rfl, rfl, trivial⟩ rfl
  have hi : 1 ≤ i ∧ i ≤ m - a ∧ 1 ≤ j ∧ j ≤ b - m ∧ Pm R R1 := hi
  obtain ⟨hi1, hi2, hj1, hj2, hp⟩ := hi
  have hl1 : R1.length = N := hp.len.trans hN
  refine br_intro (fun c => ?_) (fun c => ?_)
  · have c : i ≠ j := by intro h; rw [show ((i, j, R1).fst : Nat) = i from rfl, show ((i, j, R1).snd.fst : Nat) = j from rfl, h] at c; simp at c
    refine br_intro (fun c2 => ?_) (fun c2 => ?_)
    · have c2 : j < i := dgt c2
      refine st_intro (n := ((m - i : Nat) : Int)) (nat_sub (a := m - i) (b := i) (c := m) (by omega) (by omega)) ?_
      refine CallS.mono (swap_calls N R1 hl1 (m - i) m j hl (by omega) (by omega)) ?_
      rintro _ _ ⟨rfl, R2, hp2, rfl⟩
      refine st_intro (n := ((i - j : Nat) : Int)) (nat_sub (a := i - j) (b := j) (c := i) (by omega) (by omega)) ?_
      conv => whnf
      exact ⟨⟨(i - j, j, R2), ⟨by show 1 ≤ i - j; omega, by show i - j ≤ m - a; omega, hj1, hj2, hp.trans hp2⟩⟩, weak_of ⟨rfl, rfl, rfl, rfl, rfl, rfl, rfl, trivial⟩ rfl, by show i - j + j < i + j; omega⟩
    · have c2 : i ≤ j := dle c2
      refine st_intro (n := ((m - i : Nat) : Int)) (nat_sub (a := m - i) (b := i) (c := m) (by omega) (by omega)) ?_
      refine st_intro (n := ((m + j : Nat) : Int)) (nat_in (n := m + j) (by omega)) ?_
      refine st_intro (n := ((m + j - i : Nat) : Int)) (nat_sub (a := m + j - i) (b := i) (c := m + j) (by omega) (by omega)) ?_
      refine CallS.mono (swap_calls N R1 hl1 (m - i) (m + j - i) i hl (by omega) (by omega)) ?_
      rintro _ _ ⟨rfl, R2, hp2, rfl⟩
      refine st_intro (n := ((j - i : Nat) : Int)) (nat_sub (a := j - i) (b := i) (c := j) (by omega) (by omega)) ?_
      conv => whnf
      exact ⟨⟨(i, j - i, R2), ⟨hi1, hi2, by show 1 ≤ j - i; omega, by show j - i ≤ b - m; omega, hp.trans hp2⟩⟩, weak_of ⟨rfl, rfl, rfl, rfl, rfl, rfl, rfl, trivial⟩ rfl, by show i + (j - i) < i + j; omega⟩
  · have c : i = j := by have : ((i : Int) != (j : Int)) = false := c; simp at this; omega
    refine st_intro (n := ((m - i : Nat) : Int)) (nat_sub (a := m - i) (b := i) (c := m) (by omega) (by omega)) ?_
    refine CallS.mono (swap_calls N R1 hl1 (m - i) m i hl (by omega) (by omega)) ?_
    rintro _ _ ⟨rfl, R2, hp2, rfl⟩
    exact ⟨rfl, R2, hp.trans hp2, rfl⟩

theorem ins_calls (N : Nat) (R : List RegD) (hN : R.length = N) (a b : Nat) (hl : N ≤ 1000000) (h1 : a ≤ b) (h3 : b ≤ N) :
    CallS Try.prog 21 [.sl 1 0 0 N, .t (.int .i64 a), .t (.int .i64 b), cmpF] (srtH N R) (SrtQ N R) := by
  refine CallS.of_fn tabS_ok regS_ok Try.func21 rfl rfl ?_
  refine st_intro (n := ((a + 1 : Nat) : Int)) (nat_in (n := a + 1) (by omega)) ?_
  refine loop_on (fun s : Nat × List RegD => a + 1 ≤ s.1 ∧ s.1 ≤ N + 1 ∧ Pm R s.2) (fun s => ⟨[(0, .sl 1 0 0 N), (1, .t (.int .i64 a)), (2, .t (.int .i64 b)), (3, cmpF), (8, .t (.int .i64 s.1))], srtH N s.2⟩)
    (fun s => b - s.1) (a + 1, R) ⟨by show a + 1 ≤ a + 1; omega, by show a + 1 ≤ N + 1; omega, .refl R⟩ ?_ (fun ⟨i, R1⟩ hi => ?_)
  · exact weak_of ⟨rfl, rfl, rfl, rfl, rfl, trivial⟩ rfl
  have hi : a + 1 ≤ i ∧ i ≤ N + 1 ∧ Pm R R1 := hi
  obtain ⟨hi1, hi2, hp⟩ := hi
  refine br_intro (fun c => ?_) (fun c => ?_)
  · have c : i < b := dlt c
    refine loop_on (fun s : Nat × List RegD => a ≤ s.1 ∧ s.1 ≤ i ∧ Pm R s.2) (fun s => ⟨[(0, .sl 1 0 0 N), (1, .t (.int .i64 a)), (2, .t (.int .i64 b)), (3, cmpF), (8, .t (.int .i64 i)), (9, .t (.int .i64 s.1))], srtH N s.2⟩)
      (fun s => s.1) (i, R1) ⟨by show a ≤ i; omega, by show i ≤ i; omega, hp⟩ ?_ (fun ⟨j, R2⟩ hj => ?_)
    · exact weak_of ⟨rfl, rfl, rfl, rfl, rfl, rfl, trivial⟩ rfl
    have hj : a ≤ j ∧ j ≤ i ∧ Pm R R2 := hj
    obtain ⟨hj1, hj2, hp2⟩ := hj
    have hl2 : R2.length = N := hp2.len.trans hN
    have next : (_ : Prop) := trivial
    refine draw_introS ord_ins_4 (by decide +kernel) ?_
    refine br_intro (fun c2 => ?_) (fun c2 => ?_)
    · have c2 : a < j := dgt c2
      obtain ⟨x, hx, hxm⟩ := get_some (R := R2) (i := j) (by omega)
      obtain ⟨y, hy, hym⟩ := get_some (R := R2) (i := j - 1) (by omega)
      obtain ⟨q, hq⟩ := cmp_runs x y
      refine ck_intro (inB0 rfl (by omega)) ?_
      refine opt_intro (map_get0 hx) ?_
      refine st_intro (n := ((j - 1 : Nat) : Int)) (nat_sub (a := j - 1) (b := 1) (c := j) (by omega) (by omega)) ?_
      refine ck_intro (inB0 rfl (by omega)) ?_
      refine opt_intro (map_get0 hy) ?_
      refine CallS.pure hq rfl ?_
      refine And.intro (fun j hj => by cases hj) ?_
      refine br_intro (fun c3 => ?_) (fun c3 => ?_)
      · refine draw_introXS (dSw [2, 3, 4]) ord_ins_6 (by decide +kernel) ?_
        refine st_intro (n := ((j - 1 : Nat) : Int)) (nat_sub (a := j - 1) (b := 1) (c := j) (by omega) (by omega)) ?_
        refine st_intro (n := ((j - 1 : Nat) : Int)) (nat_sub (a := j - 1) (b := 1) (c := j) (by omega) (by omega)) ?_
        refine ck_intro (inB0 rfl (by omega)) ?_
        refine opt_intro (map_get0 hy) ?_
        refine ck_intro (inB0 rfl (by omega)) ?_
        refine opt_intro (map_get0 hx) ?_
        refine ck_intro (inB0 rfl (by omega)) ?_
        refine opt_intro (map_get0 hx) ?_
        conv => whnf
        refine And.intro (fun j hj => by
          simp only [List.mem_cons, List.not_mem_nil, or_false] at hj
          rcases hj with rfl | rfl | rfl <;> exact LeX.set _ (List.mem_singleton.2 rfl)) ?_
        refine ck_intro (inB0 rfl (by omega)) ?_
        refine opt_intro (map_get1 hy (by omega)) ?_
        conv => whnf
        refine And.intro (fun j hj => by cases hj) ?_
        conv => whnf
        refine st_intro (n := ((j - 1 : Nat) : Int)) (nat_sub (a := j - 1) (b := 1) (c := j) (by omega) (by omega)) ?_
        conv => whnf
        refine ⟨⟨(j - 1, swapL R2 j (j - 1) y x), ⟨by show a ≤ j - 1; omega, by show j - 1 ≤ i; omega, hp2.trans (.swap hym hxm)⟩⟩, weak_of ⟨rfl, rfl, rfl, rfl, rfl, rfl, trivial⟩ ?_, by show j - 1 < j; omega⟩
        show [_, Blk.arr tEl 3 true 0 (.ts (((R2.map regT).set (0 + j) (regT y)).set (0 + (j - 1)) (regT x)))] = _
        rw [Nat.zero_add, Nat.zero_add, swapL_map]
        rfl
      · refine st_intro (n := ((i + 1 : Nat) : Int)) (nat_in (n := i + 1) (by omega)) ?_
        conv => whnf
        exact ⟨⟨(i + 1, R2), ⟨by show a + 1 ≤ i + 1; omega, by show i + 1 ≤ N + 1; omega, hp2⟩⟩, weak_of ⟨rfl, rfl, rfl, rfl, rfl, trivial⟩ rfl, by show b - (i + 1) < b - i; omega⟩
    · refine And.intro (fun j hj => by cases hj) ?_
      refine st_intro (n := ((i + 1 : Nat) : Int)) (nat_in (n := i + 1) (by omega)) ?_
      conv => whnf
      exact ⟨⟨(i + 1, R2), ⟨by show a + 1 ≤ i + 1; omega, by show i + 1 ≤ N + 1; omega, hp2⟩⟩, weak_of ⟨rfl, rfl, rfl, rfl, rfl, trivial⟩ rfl, by show b - (i + 1) < b - i; omega⟩
  · exact ⟨rfl, R1, hp, rfl⟩

end Go.Proofs.Ythdgpfegjdfpkaa
