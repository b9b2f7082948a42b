/-
  The library's stable sort over a row that is sorted: it is only read (walks).
-/
import Derived.Test.YthpkehhghcpolaaDoorRp
import Derived.Test.YthpkehhghcpolaaDoorEy3
import Derived.Test.YthpkehhghcpolaaDoorFg
namespace Go.Proofs.YthpkehhghcpolaaDoor
open Go.IntWalk
set_option maxRecDepth 100000
set_option linter.unusedVariables false
set_option linter.unusedSimpArgs false
set_option maxHeartbeats 2000000

def ord_97_4 : Ord := (.op 0 [] (.op 1 [0] (.op 2 [] (.op 3 [] (.op 4 [] (.op 5 [4] (.op 6 [5, 4] (.op 7 [4] (.op 8 [4] (.op 9 [8, 7, 6, 5, 4] (.op 10 [9, 8, 7, 6, 5, 4] (.op 11 [9, 8, 7, 6, 5, 4] (.op 12 [8, 7, 6, 5, 4] (.op 13 [8, 7, 6, 5, 4] (.op 14 [] (.op 15 [] (.op 16 [] .nil)))))))))))))))))
def ord_98_5 : Ord := (.op 0 [] (.op 1 [0] (.op 2 [1, 0] (.op 3 [0] (.op 4 [0] (.op 5 [4, 3, 2, 1, 0] (.op 6 [5, 4, 3, 2, 1, 0] (.op 7 [4, 3, 2, 1, 0] (.op 8 [4, 3, 2, 1, 0] (.op 9 [] (.op 10 [] .nil)))))))))))
def ord_98_17 : Ord := (.op 0 [] (.op 1 [0] (.op 2 [1, 0] (.op 3 [0] (.op 4 [0] (.op 5 [4, 3, 2, 1, 0] (.op 6 [5, 4, 3, 2, 1, 0] (.op 7 [4, 3, 2, 1, 0] (.op 8 [4, 3, 2, 1, 0] (.op 9 [] (.op 10 [] (.op 11 [] .nil))))))))))))
def ord_98_35 : Ord := (.op 0 [] (.op 1 [0] (.op 2 [1, 0] (.op 3 [2, 1, 0] (.op 4 [1, 0] (.op 5 [0] (.op 6 [0] (.op 7 [6, 5, 4, 3, 2, 1, 0] (.op 8 [7, 6, 5, 4, 3, 2, 1, 0] (.op 9 [6, 5, 4, 3, 2, 1, 0] (.op 10 [6, 5, 4, 3, 2, 1, 0] (.op 11 [] (.op 12 [] (.op 13 [] .nil))))))))))))))
theorem get_some {α : Type} {R : List α} {i : Nat} (h : i < R.length) : ∃ x, R[i]? = some x ∧ x ∈ R := ⟨R[i], List.getElem?_eq_getElem h, List.getElem_mem h⟩
theorem nat_in {n : Nat} (h : n ≤ 9223372036854775807) : IntKind.i64.wrap (n : Int) = n := by rw [IntKind.wrap_i64]; omega
theorem nat_inu {n : Nat} (h : n ≤ 9223372036854775807) : IntKind.u64.wrap (n : Int) = n := by rw [IntKind.wrap_u64]; omega
theorem nat_sub {a b c : Nat} (h : a + b = c) (hc : c ≤ 9223372036854775807) : IntKind.i64.wrap ((c : Int) - (b : Int)) = a := by rw [IntKind.wrap_i64]; omega
theorem half_u {n : Nat} (h : n ≤ 9223372036854775807) : (n : Int).fdiv (2 ^ min (Int.toNat 1) IntKind.u64.bits) = ((n / 2 : Nat) : Int) := by
  rw [show ((2 : Int) ^ min (Int.toNat 1) IntKind.u64.bits) = 2 from rfl, Int.fdiv_eq_ediv_of_nonneg _ (by decide)]; omega
theorem dlt {a b : Nat} (c : decide ((a : Int) < (b : Int)) = true) : a < b := by have := of_decide_eq_true c; omega
theorem dge {a b : Nat} (c : decide ((a : Int) < (b : Int)) = false) : b ≤ a := by have := of_decide_eq_false c; omega
theorem dgt {a b : Nat} (c : decide ((a : Int) > (b : Int)) = true) : b < a := by have := of_decide_eq_true c; omega
theorem dle {a b : Nat} (c : decide ((a : Int) > (b : Int)) = false) : a ≤ b := by have := of_decide_eq_false c; omega
theorem loop_then {k0 : Nat} {body : (Ex → St → Prop) → St → Prop} {Q : Ex → St → Prop} {s : St} (J : Ex → St → Prop) (h : ∀ Q', (∀ e s', J e s' → Q' e s') → LoopU k0 body Q' s) (hJ : ∀ e s', J e s' → Q e s') : LoopU k0 body Q s := h Q hJ
theorem draw_introXS {ops : Array Oper} {s : St} {K : St → Prop} (D : Nat → List Nat) (σ : Ord) (h : drawOK ops (masks ops) σ [] [] = true) (k : xdr tabS (CallS Tryd.prog) ops D σ s K) : regS ops s K := ⟨D, σ, h, k⟩

abbrev cmpT : T := .fn (.func 36) [] []
abbrev cmpG : AV := .t cmpT

theorem isNaN_runs (n : Int) : Runs Tryd.prog 57 [.int .i64 n] (.t (.bool false)) := by
  refine Runs.of_call ?_ rfl
  refine CallS.of_fn tabS_ok regS_ok Tryd.func57 rfl rfl ?_
  exact And.intro (congrArg (fun b => some (T.bool b)) (by simp)) rfl
/-- What a comparison of two numbers answers. -/
def cmpV (n m : Int) : Int := if n < m then -1 else if n > m then 1 else 0
theorem compare_eq (n m : Int) : Runs Tryd.prog 37 [.int .i64 n, .int .i64 m] (.t (.int .i64 (cmpV n m))) := by
  have hc : cmpV n m = if n < m then -1 else if n > m then 1 else 0 := rfl
  refine Runs.of_call ?_ rfl
  refine CallS.of_fn tabS_ok regS_ok Tryd.func37 rfl rfl ?_
  refine CallS.pure (isNaN_runs n) rfl ?_
  refine CallS.pure (isNaN_runs m) rfl ?_
  refine br_intro (fun c1 => ?_) (fun c1 => ?_)
  · exact And.intro (congrArg (fun b => some (T.int .i64 b)) (by rw [hc, if_pos (of_decide_eq_true c1)])) rfl
  refine br_intro (fun c2 => ?_) (fun c2 => ?_)
  · exact And.intro (congrArg (fun b => some (T.int .i64 b)) (by rw [hc, if_neg (of_decide_eq_false c1), if_pos (of_decide_eq_true c2)])) rfl
  · exact And.intro (congrArg (fun b => some (T.int .i64 b)) (by rw [hc, if_neg (of_decide_eq_false c1), if_neg (of_decide_eq_false c2)])) rfl
theorem cmp_gt (x y : SegD) (h : y.v < x.v) : Runs Tryd.prog 36 [segT x, segT y] (.t (.int .i64 1)) := by
  have e := compare_eq x.v y.v
  rw [show cmpV x.v y.v = 1 from by unfold cmpV; rw [if_neg (by omega), if_pos (by omega)]] at e
  refine Runs.of_call ?_ rfl
  refine CallS.of_fn tabS_ok regS_ok Tryd.func36 rfl rfl ?_
  refine CallS.pure e rfl ?_
  exact And.intro rfl rfl

theorem insertion_ro (S : List SegD) (hS : Rises S) (hl : S.length ≤ 1000000) (a b : Nat) (hab : a ≤ b) (hb : b ≤ S.length) :
    Runs Tryd.prog 97 [.vecd 4 (S.map segT), .int .i64 a, .int .i64 b, cmpT] (.tup []) := by
  refine Runs.of_call ?_ rfl
  refine CallS.of_fn tabS_ok regS_ok Tryd.func97 rfl rfl ?_
  refine st_intro (n := ((a + 1 : Nat) : Int)) (nat_in (n := a + 1) (by omega)) ?_
  refine loop_on (fun i : Nat => a + 1 ≤ i ∧ i ≤ S.length + 1) (fun i => ⟨[(0, .t (.vecd 4 (S.map segT))), (1, .t (.int .i64 ((a : Nat) : Int))), (2, .t (.int .i64 ((b : Nat) : Int))), (3, cmpG), (8, .t (.int .i64 ((i : Nat) : Int)))], []⟩) (fun i => S.length + 1 - i) (a + 1) ⟨Nat.le_refl _, by omega⟩ ?_ (fun i ⟨hi1, hi2⟩ => ?_)
  · exact weak_of ⟨rfl, rfl, rfl, rfl, rfl, trivial⟩ rfl
  refine br_intro (fun c => ?_) (fun c => ?_)
  rotate_left 1
  · exact And.intro trivial rfl
  have c := dlt c
  refine loop_un 1 ?_
  obtain ⟨x, hx, _⟩ := get_some (R := S) (i := i) (by omega)
  obtain ⟨y, hy, _⟩ := get_some (R := S) (i := i - 1) (by omega)
  refine draw_introXS (fun _ => []) ord_97_4 (by decide +kernel) ?_
  refine br_intro (fun _ => ?_) (fun c2 => ?_)
  rotate_left 1
  · have := dle c2; omega
  refine opt_intro (show (S.map segT)[((i : Nat) : Int).toNat]? = some (segT x) from by rw [Int.toNat_natCast, List.getElem?_map, hx]; rfl) ?_
  refine st_intro (n := ((i - 1 : Nat) : Int)) (nat_sub (a := i - 1) (b := 1) (c := i) (by omega) (by omega)) ?_
  refine opt_intro (show (S.map segT)[((i - 1 : Nat) : Int).toNat]? = some (segT y) from by rw [Int.toNat_natCast, List.getElem?_map, hy]; rfl) ?_
  refine CallS.frzG (cmp_gt x y (hS _ _ _ _ (by omega) hy hx)) rfl ⟨.refl _, .refl _, trivial⟩ ?_
  refine And.intro (fun j hj => by first | (cases hj; done) | exact LeX.append _ _ _ | exact LeX.refl _ _) ?_
  refine st_intro (n := ((i + 1 : Nat) : Int)) (nat_in (n := i + 1) (by omega)) ?_
  conv => whnf
  exact ⟨⟨i + 1, by omega, by omega⟩, weak_of ⟨rfl, rfl, rfl, rfl, rfl, trivial⟩ rfl, by show S.length + 1 - (i + 1) < S.length + 1 - i; omega⟩

theorem symMerge_ro (S : List SegD) (hS : Rises S) (hl : S.length ≤ 1000000) : ∀ (N a m b : Nat), b - a ≤ N → a < m → m < b → b ≤ S.length →
    Runs Tryd.prog 98 [.vecd 4 (S.map segT), .int .i64 a, .int .i64 m, .int .i64 b, cmpT] (.tup [])
  | 0, a, m, b, hN, h1, h2, h3 => by omega
  | N + 1, a, m, b, hN, h1, h2, h3 => by
    have IH := symMerge_ro S hS hl N
    refine Runs.of_call ?_ rfl
    refine CallS.of_fn tabS_ok regS_ok Tryd.func98 rfl rfl ?_
    refine st_intro (n := ((m - a : Nat) : Int)) (nat_sub (a := m - a) (b := a) (c := m) (by omega) (by omega)) ?_
    refine br_intro (fun c0 => ?_) (fun c0 => ?_)
    · have c0 : m - a = 1 := by simp at c0; omega
      obtain ⟨x, hx, _⟩ := get_some (R := S) (i := a) (by omega)
      refine loop_then (fun e s' => e = .exit 0 ∧ ∃ b0 b1 b2 : AV, s' = ⟨(33, b0) :: (32, b1) :: (31, b2) :: [(0, .t (.vecd 4 (S.map segT))), (1, .t (.int .i64 ((a : Nat) : Int))), (2, .t (.int .i64 ((m : Nat) : Int))), (3, .t (.int .i64 ((b : Nat) : Int))), (4, cmpG), (10, .t (.int .i64 ((m : Nat) : Int))), (11, .t (.int .i64 ((m : Nat) : Int)))], []⟩) (fun HQ' HQ => ?_) ?_
      · refine loop_on (fun j : Nat => m ≤ j ∧ j ≤ b) (fun j => ⟨[(0, .t (.vecd 4 (S.map segT))), (1, .t (.int .i64 ((a : Nat) : Int))), (2, .t (.int .i64 ((m : Nat) : Int))), (3, .t (.int .i64 ((b : Nat) : Int))), (4, cmpG), (10, .t (.int .i64 ((m : Nat) : Int))), (11, .t (.int .i64 ((j : Nat) : Int)))], []⟩) (fun j => j) b ⟨by omega, Nat.le_refl _⟩ ?_ (fun j ⟨hj1, hj2⟩ => ?_)
        · exact weak_of ⟨rfl, rfl, rfl, rfl, rfl, rfl, rfl, trivial⟩ rfl
        refine br_intro (fun c => ?_) (fun c => ?_)
        rotate_left 1
        · have : j = m := by have := dge c; omega
          subst this
          exact HQ _ _ ⟨rfl, _, _, _, rfl⟩
        have c := dlt c
        obtain ⟨zh, hzh⟩ : ∃ z, z = m + j := ⟨_, rfl⟩
        obtain ⟨h, hh⟩ : ∃ h, h = zh / 2 := ⟨_, rfl⟩
        refine st_intro (n := ((zh : Nat) : Int)) ((nat_in (n := m + j) (by omega)).trans (by rw [hzh])) ?_
        refine st_intro (n := ((zh : Nat) : Int)) (nat_inu (n := zh) (by omega)) ?_
        refine st_intro (n := ((h : Nat) : Int)) ((half_u (n := zh) (by omega)).trans (by rw [hh])) ?_
        refine st_intro (n := ((h : Nat) : Int)) (nat_in (n := h) (by omega)) ?_
        obtain ⟨y, hy, _⟩ := get_some (R := S) (i := h) (by omega)
        refine draw_introXS (fun _ => []) ord_98_5 (by decide +kernel) ?_
        refine opt_intro (show (S.map segT)[((h : Nat) : Int).toNat]? = some (segT y) from by rw [Int.toNat_natCast, List.getElem?_map, hy]; rfl) ?_
        refine opt_intro (show (S.map segT)[((a : Nat) : Int).toNat]? = some (segT x) from by rw [Int.toNat_natCast, List.getElem?_map, hx]; rfl) ?_
        refine CallS.frzG (cmp_gt y x (hS _ _ _ _ (by omega) hx hy)) rfl ⟨.refl _, .refl _, trivial⟩ ?_
        refine And.intro (fun j hj => by first | (cases hj; done) | exact LeX.append _ _ _ | exact LeX.refl _ _) ?_
        conv => whnf
        exact ⟨⟨h, by omega, by omega⟩, weak_of ⟨rfl, rfl, rfl, rfl, rfl, rfl, rfl, trivial⟩ rfl, by show h < j; omega⟩
      rintro _ _ ⟨rfl, _, _, _, rfl⟩
      refine loop_un 1 ?_
      refine st_intro (n := ((a : Nat) : Int)) (nat_sub (a := a) (b := 1) (c := m) (by omega) (by omega)) ?_
      refine br_intro (fun c => ?_) (fun _ => ?_)
      · have := dlt c; omega
      exact And.intro trivial rfl
    have c0 : m - a ≠ 1 := by simp at c0; omega
    refine st_intro (n := ((b - m : Nat) : Int)) (nat_sub (a := b - m) (b := m) (c := b) (by omega) (by omega)) ?_
    refine br_intro (fun c1 => ?_) (fun c1 => ?_)
    · have c1 : b - m = 1 := by simp at c1; omega
      obtain ⟨x, hx, _⟩ := get_some (R := S) (i := m) (by omega)
      refine loop_then (fun e s' => e = .exit 4 ∧ ∃ b0 b1 b2 : AV, s' = ⟨(85, b0) :: (84, b1) :: (83, b2) :: [(0, .t (.vecd 4 (S.map segT))), (1, .t (.int .i64 ((a : Nat) : Int))), (2, .t (.int .i64 ((m : Nat) : Int))), (3, .t (.int .i64 ((b : Nat) : Int))), (4, cmpG), (14, .t (.int .i64 ((m : Nat) : Int))), (15, .t (.int .i64 ((m : Nat) : Int)))], []⟩) (fun HQ' HQ => ?_) ?_
      · refine loop_on (fun i : Nat => a ≤ i ∧ i ≤ m) (fun i => ⟨[(0, .t (.vecd 4 (S.map segT))), (1, .t (.int .i64 ((a : Nat) : Int))), (2, .t (.int .i64 ((m : Nat) : Int))), (3, .t (.int .i64 ((b : Nat) : Int))), (4, cmpG), (14, .t (.int .i64 ((i : Nat) : Int))), (15, .t (.int .i64 ((m : Nat) : Int)))], []⟩) (fun i => m - i) a ⟨Nat.le_refl _, by omega⟩ ?_ (fun i ⟨hj1, hj2⟩ => ?_)
        · exact weak_of ⟨rfl, rfl, rfl, rfl, rfl, rfl, rfl, trivial⟩ rfl
        refine br_intro (fun c => ?_) (fun c => ?_)
        rotate_left 1
        · have : i = m := by have := dge c; omega
          subst this
          exact HQ _ _ ⟨rfl, _, _, _, rfl⟩
        have c := dlt c
        obtain ⟨zh, hzh⟩ : ∃ z, z = i + m := ⟨_, rfl⟩
        obtain ⟨h, hh⟩ : ∃ h, h = zh / 2 := ⟨_, rfl⟩
        refine st_intro (n := ((zh : Nat) : Int)) ((nat_in (n := i + m) (by omega)).trans (by rw [hzh])) ?_
        refine st_intro (n := ((zh : Nat) : Int)) (nat_inu (n := zh) (by omega)) ?_
        refine st_intro (n := ((h : Nat) : Int)) ((half_u (n := zh) (by omega)).trans (by rw [hh])) ?_
        refine st_intro (n := ((h : Nat) : Int)) (nat_in (n := h) (by omega)) ?_
        obtain ⟨y, hy, _⟩ := get_some (R := S) (i := h) (by omega)
        refine draw_introXS (fun _ => []) ord_98_17 (by decide +kernel) ?_
        refine opt_intro (show (S.map segT)[((m : Nat) : Int).toNat]? = some (segT x) from by rw [Int.toNat_natCast, List.getElem?_map, hx]; rfl) ?_
        refine opt_intro (show (S.map segT)[((h : Nat) : Int).toNat]? = some (segT y) from by rw [Int.toNat_natCast, List.getElem?_map, hy]; rfl) ?_
        refine CallS.frzG (cmp_gt x y (hS _ _ _ _ (by omega) hy hx)) rfl ⟨.refl _, .refl _, trivial⟩ ?_
        refine And.intro (fun j hj => by first | (cases hj; done) | exact LeX.append _ _ _ | exact LeX.refl _ _) ?_
        refine st_intro (n := ((h + 1 : Nat) : Int)) (nat_in (n := h + 1) (by omega)) ?_
        conv => whnf
        exact ⟨⟨h + 1, by omega, by omega⟩, weak_of ⟨rfl, rfl, rfl, rfl, rfl, rfl, rfl, trivial⟩ rfl, by show m - (h + 1) < m - i; omega⟩
      rintro _ _ ⟨rfl, _, _, _, rfl⟩
      refine loop_un 1 ?_
      refine br_intro (fun c => ?_) (fun _ => ?_)
      · have := dgt c; omega
      exact And.intro trivial rfl
    have c1 : b - m ≠ 1 := by simp at c1; omega
    obtain ⟨zd, hzd⟩ : ∃ z, z = a + b := ⟨_, rfl⟩
    obtain ⟨mid, hmid⟩ : ∃ h, h = zd / 2 := ⟨_, rfl⟩
    refine st_intro (n := ((zd : Nat) : Int)) ((nat_in (n := a + b) (by omega)).trans (by rw [hzd])) ?_
    refine st_intro (n := ((zd : Nat) : Int)) (nat_inu (n := zd) (by omega)) ?_
    refine st_intro (n := ((mid : Nat) : Int)) ((half_u (n := zd) (by omega)).trans (by rw [hmid])) ?_
    refine st_intro (n := ((mid : Nat) : Int)) (nat_in (n := mid) (by omega)) ?_
    obtain ⟨zn, hzn⟩ : ∃ z, z = mid + m := ⟨_, rfl⟩
    refine st_intro (n := ((zn : Nat) : Int)) ((nat_in (n := mid + m) (by omega)).trans (by rw [hzn])) ?_
    refine br_intro (fun c2 => ?_) (fun c2 => ?_)
    · have c2 : mid < m := dgt c2
      obtain ⟨st, hst⟩ : ∃ st, st = zn - b := ⟨_, rfl⟩
      refine st_intro (n := ((st : Nat) : Int)) (nat_sub (a := st) (b := b) (c := zn) (by omega) (by omega)) ?_
      obtain ⟨p, hp⟩ : ∃ p, p = zn - 1 := ⟨_, rfl⟩
      refine st_intro (n := ((p : Nat) : Int)) (nat_sub (a := p) (b := 1) (c := zn) (by omega) (by omega)) ?_
      refine loop_then (fun e s' => e = .exit 8 ∧ ∃ b0 b1 b2 : AV, s' = ⟨(151, b0) :: (150, b1) :: (149, b2) :: [(0, .t (.vecd 4 (S.map segT))), (1, .t (.int .i64 ((a : Nat) : Int))), (2, .t (.int .i64 ((m : Nat) : Int))), (3, .t (.int .i64 ((b : Nat) : Int))), (4, cmpG), (18, .t (.int .i64 ((mid : Nat) : Int))), (19, .t (.int .i64 ((zn : Nat) : Int))), (20, .t (.int .i64 ((mid : Nat) : Int))), (21, .t (.int .i64 ((mid : Nat) : Int))), (22, .t (.int .i64 ((p : Nat) : Int)))], []⟩) (fun HQ' HQ => ?_) ?_
      · refine loop_on (fun i : Nat => st ≤ i ∧ i ≤ mid) (fun i => ⟨[(0, .t (.vecd 4 (S.map segT))), (1, .t (.int .i64 ((a : Nat) : Int))), (2, .t (.int .i64 ((m : Nat) : Int))), (3, .t (.int .i64 ((b : Nat) : Int))), (4, cmpG), (18, .t (.int .i64 ((mid : Nat) : Int))), (19, .t (.int .i64 ((zn : Nat) : Int))), (20, .t (.int .i64 ((i : Nat) : Int))), (21, .t (.int .i64 ((mid : Nat) : Int))), (22, .t (.int .i64 ((p : Nat) : Int)))], []⟩) (fun i => mid - i) st ⟨Nat.le_refl _, by omega⟩ ?_ (fun i ⟨hj1, hj2⟩ => ?_)
        · exact weak_of ⟨rfl, rfl, rfl, rfl, rfl, rfl, rfl, rfl, rfl, rfl, trivial⟩ rfl
        refine br_intro (fun c => ?_) (fun c => ?_)
        rotate_left 1
        · have : i = mid := by have := dge c; omega
          subst this
          exact HQ _ _ ⟨rfl, _, _, _, rfl⟩
        have c := dlt c
        obtain ⟨zh, hzh⟩ : ∃ z, z = i + mid := ⟨_, rfl⟩
        obtain ⟨h, hh⟩ : ∃ h, h = zh / 2 := ⟨_, rfl⟩
        refine st_intro (n := ((zh : Nat) : Int)) ((nat_in (n := i + mid) (by omega)).trans (by rw [hzh])) ?_
        refine st_intro (n := ((zh : Nat) : Int)) (nat_inu (n := zh) (by omega)) ?_
        refine st_intro (n := ((h : Nat) : Int)) ((half_u (n := zh) (by omega)).trans (by rw [hh])) ?_
        refine st_intro (n := ((h : Nat) : Int)) (nat_in (n := h) (by omega)) ?_
        obtain ⟨x, hx, _⟩ := get_some (R := S) (i := p - h) (by omega)
        obtain ⟨y, hy, _⟩ := get_some (R := S) (i := h) (by omega)
        refine draw_introXS (fun _ => []) ord_98_35 (by decide +kernel) ?_
        refine st_intro (n := ((p - h : Nat) : Int)) (nat_sub (a := p - h) (b := h) (c := p) (by omega) (by omega)) ?_
        refine opt_intro (show (S.map segT)[((p - h : Nat) : Int).toNat]? = some (segT x) from by rw [Int.toNat_natCast, List.getElem?_map, hx]; rfl) ?_
        refine opt_intro (show (S.map segT)[((h : Nat) : Int).toNat]? = some (segT y) from by rw [Int.toNat_natCast, List.getElem?_map, hy]; rfl) ?_
        refine CallS.frzG (cmp_gt x y (hS _ _ _ _ (by omega) hy hx)) rfl ⟨.refl _, .refl _, trivial⟩ ?_
        refine And.intro (fun j hj => by first | (cases hj; done) | exact LeX.append _ _ _ | exact LeX.refl _ _) ?_
        refine st_intro (n := ((h + 1 : Nat) : Int)) (nat_in (n := h + 1) (by omega)) ?_
        conv => whnf
        exact ⟨⟨h + 1, by omega, by omega⟩, weak_of ⟨rfl, rfl, rfl, rfl, rfl, rfl, rfl, rfl, rfl, rfl, trivial⟩ rfl, by show mid - (h + 1) < mid - i; omega⟩
      rintro _ _ ⟨rfl, _, _, _, rfl⟩
      refine st_intro (n := ((m : Nat) : Int)) (nat_sub (a := m) (b := mid) (c := zn) (by omega) (by omega)) ?_
      refine br_intro (fun _ => ?_) (fun c => ?_)
      rotate_left 1
      · have := dge c; omega
      refine br_intro (fun c => ?_) (fun _ => ?_)
      · have := dlt c; omega
      refine br_intro (fun _ => ?_) (fun c => ?_)
      rotate_left 1
      · have := dge c; omega
      refine br_intro (fun c => ?_) (fun _ => ?_)
      · have := dlt c; omega
      refine br_intro (fun _ => ?_) (fun c => ?_)
      rotate_left 1
      · have := dge c; omega
      refine br_intro (fun _ => ?_) (fun c => ?_)
      rotate_left 1
      · have := dge c; omega
      refine CallS.pure (IH mid m b (by omega) c2 h2 h3) rfl ?_
      exact And.intro trivial rfl
    · have c2 : m ≤ mid := dle c2
      obtain ⟨p, hp⟩ : ∃ p, p = zn - 1 := ⟨_, rfl⟩
      refine st_intro (n := ((p : Nat) : Int)) (nat_sub (a := p) (b := 1) (c := zn) (by omega) (by omega)) ?_
      refine loop_then (fun e s' => e = .exit 8 ∧ ∃ b0 b1 b2 : AV, s' = ⟨(151, b0) :: (150, b1) :: (149, b2) :: [(0, .t (.vecd 4 (S.map segT))), (1, .t (.int .i64 ((a : Nat) : Int))), (2, .t (.int .i64 ((m : Nat) : Int))), (3, .t (.int .i64 ((b : Nat) : Int))), (4, cmpG), (18, .t (.int .i64 ((mid : Nat) : Int))), (19, .t (.int .i64 ((zn : Nat) : Int))), (20, .t (.int .i64 ((m : Nat) : Int))), (21, .t (.int .i64 ((m : Nat) : Int))), (22, .t (.int .i64 ((p : Nat) : Int)))], []⟩) (fun HQ' HQ => ?_) ?_
      · refine loop_on (fun i : Nat => a ≤ i ∧ i ≤ m) (fun i => ⟨[(0, .t (.vecd 4 (S.map segT))), (1, .t (.int .i64 ((a : Nat) : Int))), (2, .t (.int .i64 ((m : Nat) : Int))), (3, .t (.int .i64 ((b : Nat) : Int))), (4, cmpG), (18, .t (.int .i64 ((mid : Nat) : Int))), (19, .t (.int .i64 ((zn : Nat) : Int))), (20, .t (.int .i64 ((i : Nat) : Int))), (21, .t (.int .i64 ((m : Nat) : Int))), (22, .t (.int .i64 ((p : Nat) : Int)))], []⟩) (fun i => m - i) a ⟨Nat.le_refl _, by omega⟩ ?_ (fun i ⟨hj1, hj2⟩ => ?_)
        · exact weak_of ⟨rfl, rfl, rfl, rfl, rfl, rfl, rfl, rfl, rfl, rfl, trivial⟩ rfl
        refine br_intro (fun c => ?_) (fun c => ?_)
        rotate_left 1
        · have : i = m := by have := dge c; omega
          subst this
          exact HQ _ _ ⟨rfl, _, _, _, rfl⟩
        have c := dlt c
        obtain ⟨zh, hzh⟩ : ∃ z, z = i + m := ⟨_, rfl⟩
        obtain ⟨h, hh⟩ : ∃ h, h = zh / 2 := ⟨_, rfl⟩
        refine st_intro (n := ((zh : Nat) : Int)) ((nat_in (n := i + m) (by omega)).trans (by rw [hzh])) ?_
        refine st_intro (n := ((zh : Nat) : Int)) (nat_inu (n := zh) (by omega)) ?_
        refine st_intro (n := ((h : Nat) : Int)) ((half_u (n := zh) (by omega)).trans (by rw [hh])) ?_
        refine st_intro (n := ((h : Nat) : Int)) (nat_in (n := h) (by omega)) ?_
        obtain ⟨x, hx, _⟩ := get_some (R := S) (i := p - h) (by omega)
        obtain ⟨y, hy, _⟩ := get_some (R := S) (i := h) (by omega)
        refine draw_introXS (fun _ => []) ord_98_35 (by decide +kernel) ?_
        refine st_intro (n := ((p - h : Nat) : Int)) (nat_sub (a := p - h) (b := h) (c := p) (by omega) (by omega)) ?_
        refine opt_intro (show (S.map segT)[((p - h : Nat) : Int).toNat]? = some (segT x) from by rw [Int.toNat_natCast, List.getElem?_map, hx]; rfl) ?_
        refine opt_intro (show (S.map segT)[((h : Nat) : Int).toNat]? = some (segT y) from by rw [Int.toNat_natCast, List.getElem?_map, hy]; rfl) ?_
        refine CallS.frzG (cmp_gt x y (hS _ _ _ _ (by omega) hy hx)) rfl ⟨.refl _, .refl _, trivial⟩ ?_
        refine And.intro (fun j hj => by first | (cases hj; done) | exact LeX.append _ _ _ | exact LeX.refl _ _) ?_
        refine st_intro (n := ((h + 1 : Nat) : Int)) (nat_in (n := h + 1) (by omega)) ?_
        conv => whnf
        exact ⟨⟨h + 1, by omega, by omega⟩, weak_of ⟨rfl, rfl, rfl, rfl, rfl, rfl, rfl, rfl, rfl, rfl, trivial⟩ rfl, by show m - (h + 1) < m - i; omega⟩
      rintro _ _ ⟨rfl, _, _, _, rfl⟩
      refine st_intro (n := ((mid : Nat) : Int)) (nat_sub (a := mid) (b := m) (c := zn) (by omega) (by omega)) ?_
      refine br_intro (fun c => ?_) (fun _ => ?_)
      · have := dlt c; omega
      refine br_intro (fun _ => ?_) (fun c => ?_)
      rotate_left 1
      · have := dge c; omega
      refine br_intro (fun c => ?_) (fun c => ?_)
      · have c := dlt c
        refine CallS.pure (IH a m mid (by omega) h1 c (by omega)) rfl ?_
        refine br_intro (fun c => ?_) (fun _ => ?_)
        · have := dlt c; omega
        exact And.intro trivial rfl
      · refine br_intro (fun c => ?_) (fun _ => ?_)
        · have := dlt c; omega
        exact And.intro trivial rfl

theorem stable_ro (S : List SegD) (hS : Rises S) (hl : S.length ≤ 39) :
    Runs Tryd.prog 56 [.vecd 4 (S.map segT), .int .i64 S.length, cmpT] (.tup []) := by
  obtain ⟨n, hn⟩ : ∃ n, n = S.length := ⟨_, rfl⟩
  rw [← hn]
  refine Runs.of_call ?_ rfl
  refine CallS.of_fn tabS_ok regS_ok Tryd.func56 rfl rfl ?_
  by_cases h20 : 20 ≤ n
  · refine loop_un 2 ?_
    refine br_intro (fun _ => ?_) (fun c => ?_)
    rotate_left 1
    · have := of_decide_eq_false c; omega
    refine CallS.pure (insertion_ro S hS (by omega) 0 20 (by omega) (by omega)) rfl ?_
    refine br_intro (fun c => ?_) (fun _ => ?_)
    · have : (40 : Int) ≤ (n : Int) := of_decide_eq_true c
      omega
    refine CallS.pure (insertion_ro S hS (by omega) 20 n (by omega) (by omega)) rfl ?_
    refine loop_un 2 ?_
    refine br_intro (fun c3 => ?_) (fun c3 => ?_)
    · refine loop_un 1 ?_
      refine br_intro (fun c => ?_) (fun _ => ?_)
      · have : (40 : Int) ≤ (n : Int) := of_decide_eq_true c
        omega
      have c3 : (20 : Int) < (n : Int) := of_decide_eq_true c3
      refine br_intro (fun _ => ?_) (fun c => ?_)
      rotate_left 1
      · have : ¬ (20 : Int) < (n : Int) := of_decide_eq_false c
        omega
      refine CallS.pure (symMerge_ro S hS (by omega) n 0 20 n (by omega) (by omega) (by omega) (by omega)) rfl ?_
      refine br_intro (fun c => ?_) (fun _ => ?_)
      · have : (40 : Int) < (n : Int) := of_decide_eq_true c
        omega
      exact And.intro trivial rfl
    · exact And.intro trivial rfl
  · refine loop_un 1 ?_
    refine br_intro (fun c => ?_) (fun _ => ?_)
    · have := of_decide_eq_true c; omega
    refine CallS.pure (insertion_ro S hS (by omega) 0 n (by omega) (by omega)) rfl ?_
    refine loop_un 1 ?_
    refine br_intro (fun c => ?_) (fun _ => ?_)
    · have := of_decide_eq_true c; omega
    exact And.intro trivial rfl

theorem sort_ro (S : List SegD) (hS : Rises S) (hl : S.length ≤ 39) :
    Runs Tryd.prog 35 [.vecd 4 (S.map segT), cmpT] (.tup []) := by
  have h := stable_ro S hS hl
  obtain ⟨n, hn⟩ : ∃ n, n = S.length := ⟨_, rfl⟩
  rw [show ((S.length : Nat) : Int) = (((S.map segT).length : Nat) : Int) from by rw [List.length_map]] at h
  refine Runs.of_call ?_ rfl
  refine CallS.of_fn tabS_ok regS_ok Tryd.func35 rfl rfl ?_
  refine CallS.pure h rfl ?_
  exact And.intro trivial rfl

end Go.Proofs.YthpkehhghcpolaaDoor
