/-
  Is an executable sound?
-/
import Derived.Test.YthpkehhghcpolaaDoorEx1
namespace Go.Proofs.YthpkehhghcpolaaDoor
open Go.IntWalk
set_option maxRecDepth 100000
set_option linter.unusedVariables false
set_option linter.unusedSimpArgs false

def addrB (n : Int) : Bool := decide (0 ≤ n ∧ n ≤ 70368744177664)

theorem addrB_iff {n : Int} : addrB n = true ↔ 0 ≤ n ∧ n ≤ 70368744177664 := decide_eq_true_iff

theorem address_runs (n : Int) : Runs Tryd.prog 29 [.int .i64 n] (.t (.bool (addrB n))) := by
  refine Runs.of_call ?_ rfl
  refine CallS.of_fn tab_ok reg_ok Tryd.func29 rfl rfl ?_
  refine br_intro (fun c => ?_) (fun c => ?_)
  · refine And.intro (congrArg (fun b => some (T.bool b)) ?_) rfl
    exact decide_eq_decide.mpr ⟨fun h => ⟨of_decide_eq_true c, h⟩, fun h => h.2⟩
  · refine And.intro (congrArg (fun b => some (T.bool b)) ?_) rfl
    exact (decide_eq_false fun h => of_decide_eq_false c h.1).symm

theorem i64_int {n : Int} (h : -9223372036854775808 ≤ n) (h2 : n ≤ 9223372036854775807) : IntKind.i64.wrap n = n := by rw [IntKind.wrap_i64]; omega

theorem page_runs {n : Int} (h : 0 ≤ n) (h2 : n ≤ 9000000000000000000) : Runs Tryd.prog 30 [.int .i64 n] (.t (.int .i64 (n / 4096))) := by
  refine Runs.of_call ?_ rfl
  refine CallS.of_fn tab_ok reg_ok Tryd.func30 rfl rfl ?_
  refine And.intro ?_ rfl
  show some (T.int .i64 _) = _
  have e : n.tdiv 4096 = n / 4096 := Int.tdiv_eq_ediv_of_nonneg h
  have e2 : IntKind.i64.wrap (n.tdiv 4096) = n / 4096 := by rw [e]; exact i64_int (by omega) (by omega)
  exact congrArg (fun x => some (T.int .i64 x)) e2

structure ExeD where
  m : Int
  e : Int
  ss : List SegD
  ts : List SegD

inductive ExeX : T → ExeD → Prop
  | mk (m e : Int) (st tt : T) (ss ts : List SegD) (hs : SegsX st ss) (ht : SegsX tt ts) (hsl : ss.length ≤ 2932031007317) (htl : ts.length ≤ 2932031007317) : ExeX (.agg [.int .i64 m, .int .i64 e, st, tt]) ⟨m, e, ss, ts⟩

structure SegOK (nx : Int) (s : SegD) : Prop where
  f0 : 0 ≤ s.f
  f7 : s.f ≤ 7
  v : addrB s.v = true
  s1 : 1 ≤ s.s
  s2 : s.s ≤ 67108864
  d : (s.d.length : Int) ≤ s.s
  n : nx ≤ s.v / 4096

/-- f: the address, v: the size, s: the alignment. -/
structure TlsOK (t : SegD) : Prop where
  f : addrB t.f = true
  v0 : 0 ≤ t.v
  v1 : t.v ≤ 67108864
  d : (t.d.length : Int) ≤ t.v
  s1 : 1 ≤ t.s
  s2 : t.s ≤ 4096
  p : bitsOp BinOp.and IntKind.i64 t.s (IntKind.i64.wrap (t.s - 1)) = 0

/-- The first page that is not taken before the segment i. -/
def nxt (ss : List SegD) : Nat → Int
  | 0 => 0
  | i + 1 => match ss[i]? with | some s => (s.v + s.s - 1) / 4096 + 1 | none => 0

structure SoundP (x : ExeD) : Prop where
  m0 : 0 ≤ x.m
  m1 : x.m ≤ 65535
  e : 0 ≤ x.e
  t : x.ts.length ≤ 1
  ss : ∀ i (h : i < x.ss.length), SegOK (nxt x.ss i) x.ss[i]
  ts : ∀ i (h : i < x.ts.length), TlsOK x.ts[i]

noncomputable instance (x : ExeD) : Decidable (SoundP x) := Classical.propDecidable _

set_option maxHeartbeats 8000000 in
theorem sound_runs {t : T} {x : ExeD} (h : ExeX t x) : Runs Tryd.prog 13 [t] (.t (.bool (decide (SoundP x)))) := by
  cases h with
  | mk m e st tt ss ts hs ht hsl htl =>
  refine Runs.of_call ?_ rfl
  refine CallS.of_fn tab_ok reg_ok Tryd.func13 rfl rfl ?_
  cases hs with
  | nil =>
    cases ht with
    | nil =>
      refine br_intro (fun c => ?_) (fun c1 => ?_)
      · exact And.intro (bno fun hh => by have c := of_decide_eq_true c; have q := hh.m0; simp only at q; omega) rfl
      refine br_intro (fun c => ?_) (fun c2 => ?_)
      · exact And.intro (bno fun hh => by have c := of_decide_eq_true c; have q := hh.m1; simp only at q; omega) rfl
      refine br_intro (fun c => ?_) (fun c3 => ?_)
      · exact And.intro (bno fun hh => by have c := of_decide_eq_true c; have q := hh.e; simp only at q; omega) rfl
      refine loop_on (fun i : Nat => i ≤ ([] : List SegD).length ∧ ∀ j (h : j < ([] : List SegD).length), j < i → SegOK (nxt ([] : List SegD) j) ([] : List SegD)[j]) (fun i => ⟨[(1, .ptr 0 0 0 0), (2, .t (.bool false)), (3, .t (.int .i64 (nxt ([] : List SegD) i))), (28, .t (.nils)), (29, .t (.int .i64 ((0 : Nat) : Int))), (30, .t (.int .i64 (i : Int)))],
        [.box [.t (.int .i64 m), .t (.int .i64 e), .t (.nils), .t (.nils)]]⟩) (fun i => ([] : List SegD).length - i) 0 ⟨Nat.zero_le _, fun j h h0 => absurd h0 (Nat.not_lt_zero _)⟩ ?_ (fun i hi0 => ?_)
      · exact weak_of ⟨rfl, rfl, rfl, rfl, rfl, rfl, trivial⟩ rfl
      obtain ⟨hi, hoks⟩ := hi0
      obtain rfl : i = 0 := by simpa using hi
      refine loop_on (fun i : Nat => i ≤ ([] : List SegD).length ∧ ∀ j (h : j < ([] : List SegD).length), j < i → TlsOK ([] : List SegD)[j]) (fun i => ⟨[(1, .ptr 0 0 0 0), (2, .t (.bool false)), (83, .t (.nils)), (84, .t (.int .i64 ((0 : Nat) : Int))), (85, .t (.int .i64 (i : Int)))],
        [.box [.t (.int .i64 m), .t (.int .i64 e), .t (.nils), .t (.nils)]]⟩) (fun i => ([] : List SegD).length - i) 0 ⟨Nat.zero_le _, fun j h h0 => absurd h0 (Nat.not_lt_zero _)⟩ ?_ (fun i hi0 => ?_)
      · exact weak_of ⟨rfl, rfl, rfl, rfl, rfl, trivial⟩ rfl
      obtain ⟨hi, hokt⟩ := hi0
      obtain rfl : i = 0 := by simpa using hi
      exact And.intro (byes ⟨by have c := of_decide_eq_false c1; simp only; omega, by have c := of_decide_eq_false c2; simp only; omega, by have c := of_decide_eq_false c3; simp only; omega, Nat.zero_le _, fun i h => absurd h (Nat.not_lt_zero i), fun i h => absurd h (Nat.not_lt_zero i)⟩) rfl
    | vec _ L2 hl2 h2 =>
      refine br_intro (fun c => ?_) (fun c1 => ?_)
      · exact And.intro (bno fun hh => by have c := of_decide_eq_true c; have q := hh.m0; simp only at q; omega) rfl
      refine br_intro (fun c => ?_) (fun c2 => ?_)
      · exact And.intro (bno fun hh => by have c := of_decide_eq_true c; have q := hh.m1; simp only at q; omega) rfl
      refine br_intro (fun c => ?_) (fun c3 => ?_)
      · exact And.intro (bno fun hh => by have c := of_decide_eq_true c; have q := hh.e; simp only at q; omega) rfl
      refine br_intro (fun c => ?_) (fun c4 => ?_)
      · exact And.intro (bno fun hh => by have c := of_decide_eq_true c; have q := hh.t; simp only at q; omega) rfl
      refine loop_on (fun i : Nat => i ≤ ([] : List SegD).length ∧ ∀ j (h : j < ([] : List SegD).length), j < i → SegOK (nxt ([] : List SegD) j) ([] : List SegD)[j]) (fun i => ⟨[(1, .ptr 0 0 0 0), (2, .t (.bool false)), (3, .t (.int .i64 (nxt ([] : List SegD) i))), (28, .t (.nils)), (29, .t (.int .i64 ((0 : Nat) : Int))), (30, .t (.int .i64 (i : Int)))],
        [.box [.t (.int .i64 m), .t (.int .i64 e), .t (.nils), .t (.vec 4 L2)]]⟩) (fun i => ([] : List SegD).length - i) 0 ⟨Nat.zero_le _, fun j h h0 => absurd h0 (Nat.not_lt_zero _)⟩ ?_ (fun i hi0 => ?_)
      · exact weak_of ⟨rfl, rfl, rfl, rfl, rfl, rfl, trivial⟩ rfl
      obtain ⟨hi, hoks⟩ := hi0
      obtain rfl : i = 0 := by simpa using hi
      refine loop_on (fun i : Nat => i ≤ ts.length ∧ ∀ j (h : j < ts.length), j < i → TlsOK ts[j]) (fun i => ⟨[(1, .ptr 0 0 0 0), (2, .t (.bool false)), (83, .t (.vec 4 L2)), (84, .t (.int .i64 (L2.length : Int))), (85, .t (.int .i64 (i : Int)))],
        [.box [.t (.int .i64 m), .t (.int .i64 e), .t (.nils), .t (.vec 4 L2)]]⟩) (fun i => ts.length - i) 0 ⟨Nat.zero_le _, fun j h h0 => absurd h0 (Nat.not_lt_zero _)⟩ ?_ (fun i hi0 => ?_)
      · exact weak_of ⟨rfl, rfl, rfl, rfl, rfl, trivial⟩ rfl
      obtain ⟨hi, hokt⟩ := hi0
      refine br_intro (fun c => ?_) (fun c => ?_)
      · have c : (i : Int) < (L2.length : Int) := of_decide_eq_true c
        have hi2 : i < ts.length := by omega
        have hLi : i < L2.length := by omega
        obtain ⟨f, v, s, dt, d, hd, hdl, hds, hLt⟩ : ∃ f v s dt d, BX dt d ∧ d.length ≤ 140737488351232 ∧ ts[i] = ⟨f, v, s, d⟩ ∧ L2[i] = .agg [.int .i64 f, .int .i64 v, .int .i64 s, dt] := by
          have := h2 i _ _ (List.getElem?_eq_getElem hLi) (List.getElem?_eq_getElem hi2)
          generalize L2[i] = a at this
          generalize ts[i] = b at this
          cases this with
          | mk f v s dt d h hl => exact ⟨f, v, s, dt, d, h, hl, rfl, rfl⟩
        refine opt_intro (show L2[((i : Int)).toNat]? = some (.agg [.int .i64 f, .int .i64 v, .int .i64 s, dt]) by rw [Int.toNat_natCast, List.getElem?_eq_getElem hLi, hLt]) ?_
        cases hd with
        | vec d M e' =>
          subst e'
          refine CallS.pure (address_runs f) rfl ?_
          refine br_intro (fun c => ?_) (fun d1 => ?_)
          · exact And.intro (bno fun hh => by have q := hh.ts i hi2; rw [hds] at q; have q := q.f; simp only at q; rw [q] at c; exact absurd c (by decide)) rfl
          refine br_intro (fun c => ?_) (fun d2 => ?_)
          · exact And.intro (bno fun hh => by have q := hh.ts i hi2; rw [hds] at q; have c := of_decide_eq_true c; have q := q.v0; simp only at q; omega) rfl
          refine br_intro (fun c => ?_) (fun d3 => ?_)
          · exact And.intro (bno fun hh => by have q := hh.ts i hi2; rw [hds] at q; have c := of_decide_eq_true c; have q := q.v1; simp only at q; omega) rfl
          refine br_intro (fun c => ?_) (fun d4 => ?_)
          · exact And.intro (bno fun hh => by have q := hh.ts i hi2; rw [hds] at q; have c := of_decide_eq_true c; have q := q.d; simp only [U_len, List.length_nil] at q c; omega) rfl
          refine br_intro (fun c => ?_) (fun d5 => ?_)
          · exact And.intro (bno fun hh => by have q := hh.ts i hi2; rw [hds] at q; have c := of_decide_eq_true c; have q := q.s1; simp only at q; omega) rfl
          refine br_intro (fun c => ?_) (fun d6 => ?_)
          · exact And.intro (bno fun hh => by have q := hh.ts i hi2; rw [hds] at q; have c := of_decide_eq_true c; have q := q.s2; simp only at q; omega) rfl
          refine br_intro (fun c => ?_) (fun d7 => ?_)
          · exact And.intro (bno fun hh => by have q := hh.ts i hi2; rw [hds] at q; have c : (bitsOp BinOp.and IntKind.i64 s (IntKind.i64.wrap (s - 1)) != 0) = true := c; have q := q.p; simp only at q; rw [q] at c; exact absurd c (by decide)) rfl
          have d2 := of_decide_eq_false d2; have d3 := of_decide_eq_false d3; have d4 := of_decide_eq_false d4; have d5 := of_decide_eq_false d5; have d6 := of_decide_eq_false d6
          have d7 : (bitsOp BinOp.and IntKind.i64 s (IntKind.i64.wrap (s - 1)) != 0) = false := d7
          have d7 : bitsOp BinOp.and IntKind.i64 s (IntKind.i64.wrap (s - 1)) = 0 := by simpa using d7
          have v0 : 0 ≤ f ∧ f ≤ 70368744177664 := addrB_iff.mp (by cases hq : addrB f with | true => rfl | false => rw [hq] at d1; exact absurd d1 (by decide))
          refine ⟨⟨i + 1, by omega, fun j hj hj2 => ?_⟩, weak_gc [0] rfl ⟨rfl, rfl, rfl, rfl, congrArg (fun x => some (AV.t (.int .i64 x))) (i64_nat (n := i + 1) (by omega)), trivial⟩ ⟨rfl, trivial⟩, by show ts.length - (i + 1) < ts.length - i; omega⟩
          by_cases e : j < i
          · exact hokt j hj e
          · obtain rfl : j = i := by omega
            rw [hds]
            exact ⟨addrB_iff.mpr v0, by simp only; omega, by simp only; omega, by simp only [U_len, List.length_nil] at d4 ⊢; omega, by simp only; omega, by simp only; omega, d7⟩
        | nil =>
          refine CallS.pure (address_runs f) rfl ?_
          refine br_intro (fun c => ?_) (fun d1 => ?_)
          · exact And.intro (bno fun hh => by have q := hh.ts i hi2; rw [hds] at q; have q := q.f; simp only at q; rw [q] at c; exact absurd c (by decide)) rfl
          refine br_intro (fun c => ?_) (fun d2 => ?_)
          · exact And.intro (bno fun hh => by have q := hh.ts i hi2; rw [hds] at q; have c := of_decide_eq_true c; have q := q.v0; simp only at q; omega) rfl
          refine br_intro (fun c => ?_) (fun d3 => ?_)
          · exact And.intro (bno fun hh => by have q := hh.ts i hi2; rw [hds] at q; have c := of_decide_eq_true c; have q := q.v1; simp only at q; omega) rfl
          refine br_intro (fun c => ?_) (fun d4 => ?_)
          · exact And.intro (bno fun hh => by have q := hh.ts i hi2; rw [hds] at q; have c := of_decide_eq_true c; have q := q.d; simp only [U_len, List.length_nil] at q c; omega) rfl
          refine br_intro (fun c => ?_) (fun d5 => ?_)
          · exact And.intro (bno fun hh => by have q := hh.ts i hi2; rw [hds] at q; have c := of_decide_eq_true c; have q := q.s1; simp only at q; omega) rfl
          refine br_intro (fun c => ?_) (fun d6 => ?_)
          · exact And.intro (bno fun hh => by have q := hh.ts i hi2; rw [hds] at q; have c := of_decide_eq_true c; have q := q.s2; simp only at q; omega) rfl
          refine br_intro (fun c => ?_) (fun d7 => ?_)
          · exact And.intro (bno fun hh => by have q := hh.ts i hi2; rw [hds] at q; have c : (bitsOp BinOp.and IntKind.i64 s (IntKind.i64.wrap (s - 1)) != 0) = true := c; have q := q.p; simp only at q; rw [q] at c; exact absurd c (by decide)) rfl
          have d2 := of_decide_eq_false d2; have d3 := of_decide_eq_false d3; have d4 := of_decide_eq_false d4; have d5 := of_decide_eq_false d5; have d6 := of_decide_eq_false d6
          have d7 : (bitsOp BinOp.and IntKind.i64 s (IntKind.i64.wrap (s - 1)) != 0) = false := d7
          have d7 : bitsOp BinOp.and IntKind.i64 s (IntKind.i64.wrap (s - 1)) = 0 := by simpa using d7
          have v0 : 0 ≤ f ∧ f ≤ 70368744177664 := addrB_iff.mp (by cases hq : addrB f with | true => rfl | false => rw [hq] at d1; exact absurd d1 (by decide))
          refine ⟨⟨i + 1, by omega, fun j hj hj2 => ?_⟩, weak_gc [0] rfl ⟨rfl, rfl, rfl, rfl, congrArg (fun x => some (AV.t (.int .i64 x))) (i64_nat (n := i + 1) (by omega)), trivial⟩ ⟨rfl, trivial⟩, by show ts.length - (i + 1) < ts.length - i; omega⟩
          by_cases e : j < i
          · exact hokt j hj e
          · obtain rfl : j = i := by omega
            rw [hds]
            exact ⟨addrB_iff.mpr v0, by simp only; omega, by simp only; omega, by simp only [U_len, List.length_nil] at d4 ⊢; omega, by simp only; omega, by simp only; omega, d7⟩
      have c : ¬ (i : Int) < (L2.length : Int) := of_decide_eq_false c
      obtain rfl : i = ts.length := by omega
      exact And.intro (byes ⟨by have c := of_decide_eq_false c1; simp only; omega, by have c := of_decide_eq_false c2; simp only; omega, by have c := of_decide_eq_false c3; simp only; omega, by have c := of_decide_eq_false c4; simp only; omega, fun i h => absurd h (Nat.not_lt_zero i), fun i h => hokt i h h⟩) rfl
  | vec _ L hl h =>
    cases ht with
    | nil =>
      refine br_intro (fun c => ?_) (fun c1 => ?_)
      · exact And.intro (bno fun hh => by have c := of_decide_eq_true c; have q := hh.m0; simp only at q; omega) rfl
      refine br_intro (fun c => ?_) (fun c2 => ?_)
      · exact And.intro (bno fun hh => by have c := of_decide_eq_true c; have q := hh.m1; simp only at q; omega) rfl
      refine br_intro (fun c => ?_) (fun c3 => ?_)
      · exact And.intro (bno fun hh => by have c := of_decide_eq_true c; have q := hh.e; simp only at q; omega) rfl
      refine loop_on (fun i : Nat => i ≤ ss.length ∧ ∀ j (h : j < ss.length), j < i → SegOK (nxt ss j) ss[j]) (fun i => ⟨[(1, .ptr 0 0 0 0), (2, .t (.bool false)), (3, .t (.int .i64 (nxt ss i))), (28, .t (.vec 4 L)), (29, .t (.int .i64 (L.length : Int))), (30, .t (.int .i64 (i : Int)))],
        [.box [.t (.int .i64 m), .t (.int .i64 e), .t (.vec 4 L), .t (.nils)]]⟩) (fun i => ss.length - i) 0 ⟨Nat.zero_le _, fun j h h0 => absurd h0 (Nat.not_lt_zero _)⟩ ?_ (fun i hi0 => ?_)
      · exact weak_of ⟨rfl, rfl, rfl, rfl, rfl, rfl, trivial⟩ rfl
      obtain ⟨hi, hoks⟩ := hi0
      refine br_intro (fun c => ?_) (fun c => ?_)
      · have c : (i : Int) < (L.length : Int) := of_decide_eq_true c
        have hi2 : i < ss.length := by omega
        have hLi : i < L.length := by omega
        obtain ⟨f, v, s, dt, d, hd, hdl, hds, hLt⟩ : ∃ f v s dt d, BX dt d ∧ d.length ≤ 140737488351232 ∧ ss[i] = ⟨f, v, s, d⟩ ∧ L[i] = .agg [.int .i64 f, .int .i64 v, .int .i64 s, dt] := by
          have := h i _ _ (List.getElem?_eq_getElem hLi) (List.getElem?_eq_getElem hi2)
          generalize L[i] = a at this
          generalize ss[i] = b at this
          cases this with
          | mk f v s dt d h hl => exact ⟨f, v, s, dt, d, h, hl, rfl, rfl⟩
        refine opt_intro (show L[((i : Int)).toNat]? = some (.agg [.int .i64 f, .int .i64 v, .int .i64 s, dt]) by rw [Int.toNat_natCast, List.getElem?_eq_getElem hLi, hLt]) ?_
        cases hd with
        | vec d M e' =>
          subst e'
          refine br_intro (fun c => ?_) (fun d1 => ?_)
          · exact And.intro (bno fun hh => by have q := hh.ss i hi2; rw [hds] at q; have c := of_decide_eq_true c; have q := q.f0; simp only at q; omega) rfl
          refine br_intro (fun c => ?_) (fun d2 => ?_)
          · exact And.intro (bno fun hh => by have q := hh.ss i hi2; rw [hds] at q; have c := of_decide_eq_true c; have q := q.f7; simp only at q; omega) rfl
          refine CallS.pure (address_runs v) rfl ?_
          refine br_intro (fun c => ?_) (fun d3 => ?_)
          · exact And.intro (bno fun hh => by have q := hh.ss i hi2; rw [hds] at q; have q := q.v; simp only at q; rw [q] at c; exact absurd c (by decide)) rfl
          refine br_intro (fun c => ?_) (fun d4 => ?_)
          · exact And.intro (bno fun hh => by have q := hh.ss i hi2; rw [hds] at q; have c := of_decide_eq_true c; have q := q.s1; simp only at q; omega) rfl
          refine br_intro (fun c => ?_) (fun d5 => ?_)
          · exact And.intro (bno fun hh => by have q := hh.ss i hi2; rw [hds] at q; have c := of_decide_eq_true c; have q := q.s2; simp only at q; omega) rfl
          refine br_intro (fun c => ?_) (fun d6 => ?_)
          · exact And.intro (bno fun hh => by have q := hh.ss i hi2; rw [hds] at q; have c := of_decide_eq_true c; have q := q.d; simp only [U_len, List.length_nil] at q c; omega) rfl
          have v0 : 0 ≤ v ∧ v ≤ 70368744177664 := addrB_iff.mp (by cases hq : addrB v with | true => rfl | false => rw [hq] at d3; exact absurd d3 (by decide))
          refine CallS.pure (page_runs v0.1 (by omega)) rfl ?_
          refine br_intro (fun c => ?_) (fun d7 => ?_)
          · exact And.intro (bno fun hh => by have q := hh.ss i hi2; rw [hds] at q; have c := of_decide_eq_true c; have q := q.n; simp only at q; omega) rfl
          have d1 := of_decide_eq_false d1; have d2 := of_decide_eq_false d2; have d4 := of_decide_eq_false d4; have d5 := of_decide_eq_false d5; have d6 := of_decide_eq_false d6; have d7 := of_decide_eq_false d7
          have ew : IntKind.i64.wrap (IntKind.i64.wrap (v + s) - 1) = v + s - 1 := by rw [i64_int (n := v + s) (by omega) (by omega), i64_int (by omega) (by omega)]
          refine CallS.pure (show Runs Tryd.prog 30 [.int .i64 (IntKind.i64.wrap (IntKind.i64.wrap (v + s) - 1))] _ by rw [ew]; exact page_runs (by omega) (by omega)) rfl ?_
          have ei : ss[i]? = some ⟨f, v, s, d⟩ := by rw [List.getElem?_eq_getElem hi2, hds]
          have en : nxt ss (i + 1) = (v + s - 1) / 4096 + 1 := by simp only [nxt, ei]
          refine ⟨⟨i + 1, by omega, fun j hj hj2 => ?_⟩, weak_gc [0] rfl ⟨rfl, rfl, congrArg (fun x => some (AV.t (.int .i64 x))) ?_, rfl, rfl, congrArg (fun x => some (AV.t (.int .i64 x))) (i64_nat (n := i + 1) (by omega)), trivial⟩ ⟨rfl, trivial⟩, by show ss.length - (i + 1) < ss.length - i; omega⟩
          · by_cases e : j < i
            · exact hoks j hj e
            · obtain rfl : j = i := by omega
              rw [hds]
              exact ⟨by simp only; omega, by simp only; omega, addrB_iff.mpr v0, by simp only; omega, by simp only; omega, by simp only [U_len, List.length_nil] at d6 ⊢; omega, by simp only; omega⟩
          · rw [en]; exact i64_int (by omega) (by omega)
        | nil =>
          refine br_intro (fun c => ?_) (fun d1 => ?_)
          · exact And.intro (bno fun hh => by have q := hh.ss i hi2; rw [hds] at q; have c := of_decide_eq_true c; have q := q.f0; simp only at q; omega) rfl
          refine br_intro (fun c => ?_) (fun d2 => ?_)
          · exact And.intro (bno fun hh => by have q := hh.ss i hi2; rw [hds] at q; have c := of_decide_eq_true c; have q := q.f7; simp only at q; omega) rfl
          refine CallS.pure (address_runs v) rfl ?_
          refine br_intro (fun c => ?_) (fun d3 => ?_)
          · exact And.intro (bno fun hh => by have q := hh.ss i hi2; rw [hds] at q; have q := q.v; simp only at q; rw [q] at c; exact absurd c (by decide)) rfl
          refine br_intro (fun c => ?_) (fun d4 => ?_)
          · exact And.intro (bno fun hh => by have q := hh.ss i hi2; rw [hds] at q; have c := of_decide_eq_true c; have q := q.s1; simp only at q; omega) rfl
          refine br_intro (fun c => ?_) (fun d5 => ?_)
          · exact And.intro (bno fun hh => by have q := hh.ss i hi2; rw [hds] at q; have c := of_decide_eq_true c; have q := q.s2; simp only at q; omega) rfl
          refine br_intro (fun c => ?_) (fun d6 => ?_)
          · exact And.intro (bno fun hh => by have q := hh.ss i hi2; rw [hds] at q; have c := of_decide_eq_true c; have q := q.d; simp only [U_len, List.length_nil] at q c; omega) rfl
          have v0 : 0 ≤ v ∧ v ≤ 70368744177664 := addrB_iff.mp (by cases hq : addrB v with | true => rfl | false => rw [hq] at d3; exact absurd d3 (by decide))
          refine CallS.pure (page_runs v0.1 (by omega)) rfl ?_
          refine br_intro (fun c => ?_) (fun d7 => ?_)
          · exact And.intro (bno fun hh => by have q := hh.ss i hi2; rw [hds] at q; have c := of_decide_eq_true c; have q := q.n; simp only at q; omega) rfl
          have d1 := of_decide_eq_false d1; have d2 := of_decide_eq_false d2; have d4 := of_decide_eq_false d4; have d5 := of_decide_eq_false d5; have d6 := of_decide_eq_false d6; have d7 := of_decide_eq_false d7
          have ew : IntKind.i64.wrap (IntKind.i64.wrap (v + s) - 1) = v + s - 1 := by rw [i64_int (n := v + s) (by omega) (by omega), i64_int (by omega) (by omega)]
          refine CallS.pure (show Runs Tryd.prog 30 [.int .i64 (IntKind.i64.wrap (IntKind.i64.wrap (v + s) - 1))] _ by rw [ew]; exact page_runs (by omega) (by omega)) rfl ?_
          have ei : ss[i]? = some ⟨f, v, s, []⟩ := by rw [List.getElem?_eq_getElem hi2, hds]
          have en : nxt ss (i + 1) = (v + s - 1) / 4096 + 1 := by simp only [nxt, ei]
          refine ⟨⟨i + 1, by omega, fun j hj hj2 => ?_⟩, weak_gc [0] rfl ⟨rfl, rfl, congrArg (fun x => some (AV.t (.int .i64 x))) ?_, rfl, rfl, congrArg (fun x => some (AV.t (.int .i64 x))) (i64_nat (n := i + 1) (by omega)), trivial⟩ ⟨rfl, trivial⟩, by show ss.length - (i + 1) < ss.length - i; omega⟩
          · by_cases e : j < i
            · exact hoks j hj e
            · obtain rfl : j = i := by omega
              rw [hds]
              exact ⟨by simp only; omega, by simp only; omega, addrB_iff.mpr v0, by simp only; omega, by simp only; omega, by simp only [U_len, List.length_nil] at d6 ⊢; omega, by simp only; omega⟩
          · rw [en]; exact i64_int (by omega) (by omega)
      have c : ¬ (i : Int) < (L.length : Int) := of_decide_eq_false c
      obtain rfl : i = ss.length := by omega
      refine loop_on (fun i : Nat => i ≤ ([] : List SegD).length ∧ ∀ j (h : j < ([] : List SegD).length), j < i → TlsOK ([] : List SegD)[j]) (fun i => ⟨[(1, .ptr 0 0 0 0), (2, .t (.bool false)), (83, .t (.nils)), (84, .t (.int .i64 ((0 : Nat) : Int))), (85, .t (.int .i64 (i : Int)))],
        [.box [.t (.int .i64 m), .t (.int .i64 e), .t (.vec 4 L), .t (.nils)]]⟩) (fun i => ([] : List SegD).length - i) 0 ⟨Nat.zero_le _, fun j h h0 => absurd h0 (Nat.not_lt_zero _)⟩ ?_ (fun i hi0 => ?_)
      · exact weak_of ⟨rfl, rfl, rfl, rfl, rfl, trivial⟩ rfl
      obtain ⟨hi, hokt⟩ := hi0
      obtain rfl : i = 0 := by simpa using hi
      exact And.intro (byes ⟨by have c := of_decide_eq_false c1; simp only; omega, by have c := of_decide_eq_false c2; simp only; omega, by have c := of_decide_eq_false c3; simp only; omega, Nat.zero_le _, fun i h => hoks i h h, fun i h => absurd h (Nat.not_lt_zero i)⟩) rfl
    | vec _ L2 hl2 h2 =>
      refine br_intro (fun c => ?_) (fun c1 => ?_)
      · exact And.intro (bno fun hh => by have c := of_decide_eq_true c; have q := hh.m0; simp only at q; omega) rfl
      refine br_intro (fun c => ?_) (fun c2 => ?_)
      · exact And.intro (bno fun hh => by have c := of_decide_eq_true c; have q := hh.m1; simp only at q; omega) rfl
      refine br_intro (fun c => ?_) (fun c3 => ?_)
      · exact And.intro (bno fun hh => by have c := of_decide_eq_true c; have q := hh.e; simp only at q; omega) rfl
      refine br_intro (fun c => ?_) (fun c4 => ?_)
      · exact And.intro (bno fun hh => by have c := of_decide_eq_true c; have q := hh.t; simp only at q; omega) rfl
      refine loop_on (fun i : Nat => i ≤ ss.length ∧ ∀ j (h : j < ss.length), j < i → SegOK (nxt ss j) ss[j]) (fun i => ⟨[(1, .ptr 0 0 0 0), (2, .t (.bool false)), (3, .t (.int .i64 (nxt ss i))), (28, .t (.vec 4 L)), (29, .t (.int .i64 (L.length : Int))), (30, .t (.int .i64 (i : Int)))],
        [.box [.t (.int .i64 m), .t (.int .i64 e), .t (.vec 4 L), .t (.vec 4 L2)]]⟩) (fun i => ss.length - i) 0 ⟨Nat.zero_le _, fun j h h0 => absurd h0 (Nat.not_lt_zero _)⟩ ?_ (fun i hi0 => ?_)
      · exact weak_of ⟨rfl, rfl, rfl, rfl, rfl, rfl, trivial⟩ rfl
      obtain ⟨hi, hoks⟩ := hi0
      refine br_intro (fun c => ?_) (fun c => ?_)
      · have c : (i : Int) < (L.length : Int) := of_decide_eq_true c
        have hi2 : i < ss.length := by omega
        have hLi : i < L.length := by omega
        obtain ⟨f, v, s, dt, d, hd, hdl, hds, hLt⟩ : ∃ f v s dt d, BX dt d ∧ d.length ≤ 140737488351232 ∧ ss[i] = ⟨f, v, s, d⟩ ∧ L[i] = .agg [.int .i64 f, .int .i64 v, .int .i64 s, dt] := by
          have := h i _ _ (List.getElem?_eq_getElem hLi) (List.getElem?_eq_getElem hi2)
          generalize L[i] = a at this
          generalize ss[i] = b at this
          cases this with
          | mk f v s dt d h hl => exact ⟨f, v, s, dt, d, h, hl, rfl, rfl⟩
        refine opt_intro (show L[((i : Int)).toNat]? = some (.agg [.int .i64 f, .int .i64 v, .int .i64 s, dt]) by rw [Int.toNat_natCast, List.getElem?_eq_getElem hLi, hLt]) ?_
        cases hd with
        | vec d M e' =>
          subst e'
          refine br_intro (fun c => ?_) (fun d1 => ?_)
          · exact And.intro (bno fun hh => by have q := hh.ss i hi2; rw [hds] at q; have c := of_decide_eq_true c; have q := q.f0; simp only at q; omega) rfl
          refine br_intro (fun c => ?_) (fun d2 => ?_)
          · exact And.intro (bno fun hh => by have q := hh.ss i hi2; rw [hds] at q; have c := of_decide_eq_true c; have q := q.f7; simp only at q; omega) rfl
          refine CallS.pure (address_runs v) rfl ?_
          refine br_intro (fun c => ?_) (fun d3 => ?_)
          · exact And.intro (bno fun hh => by have q := hh.ss i hi2; rw [hds] at q; have q := q.v; simp only at q; rw [q] at c; exact absurd c (by decide)) rfl
          refine br_intro (fun c => ?_) (fun d4 => ?_)
          · exact And.intro (bno fun hh => by have q := hh.ss i hi2; rw [hds] at q; have c := of_decide_eq_true c; have q := q.s1; simp only at q; omega) rfl
          refine br_intro (fun c => ?_) (fun d5 => ?_)
          · exact And.intro (bno fun hh => by have q := hh.ss i hi2; rw [hds] at q; have c := of_decide_eq_true c; have q := q.s2; simp only at q; omega) rfl
          refine br_intro (fun c => ?_) (fun d6 => ?_)
          · exact And.intro (bno fun hh => by have q := hh.ss i hi2; rw [hds] at q; have c := of_decide_eq_true c; have q := q.d; simp only [U_len, List.length_nil] at q c; omega) rfl
          have v0 : 0 ≤ v ∧ v ≤ 70368744177664 := addrB_iff.mp (by cases hq : addrB v with | true => rfl | false => rw [hq] at d3; exact absurd d3 (by decide))
          refine CallS.pure (page_runs v0.1 (by omega)) rfl ?_
          refine br_intro (fun c => ?_) (fun d7 => ?_)
          · exact And.intro (bno fun hh => by have q := hh.ss i hi2; rw [hds] at q; have c := of_decide_eq_true c; have q := q.n; simp only at q; omega) rfl
          have d1 := of_decide_eq_false d1; have d2 := of_decide_eq_false d2; have d4 := of_decide_eq_false d4; have d5 := of_decide_eq_false d5; have d6 := of_decide_eq_false d6; have d7 := of_decide_eq_false d7
          have ew : IntKind.i64.wrap (IntKind.i64.wrap (v + s) - 1) = v + s - 1 := by rw [i64_int (n := v + s) (by omega) (by omega), i64_int (by omega) (by omega)]
          refine CallS.pure (show Runs Tryd.prog 30 [.int .i64 (IntKind.i64.wrap (IntKind.i64.wrap (v + s) - 1))] _ by rw [ew]; exact page_runs (by omega) (by omega)) rfl ?_
          have ei : ss[i]? = some ⟨f, v, s, d⟩ := by rw [List.getElem?_eq_getElem hi2, hds]
          have en : nxt ss (i + 1) = (v + s - 1) / 4096 + 1 := by simp only [nxt, ei]
          refine ⟨⟨i + 1, by omega, fun j hj hj2 => ?_⟩, weak_gc [0] rfl ⟨rfl, rfl, congrArg (fun x => some (AV.t (.int .i64 x))) ?_, rfl, rfl, congrArg (fun x => some (AV.t (.int .i64 x))) (i64_nat (n := i + 1) (by omega)), trivial⟩ ⟨rfl, trivial⟩, by show ss.length - (i + 1) < ss.length - i; omega⟩
          · by_cases e : j < i
            · exact hoks j hj e
            · obtain rfl : j = i := by omega
              rw [hds]
              exact ⟨by simp only; omega, by simp only; omega, addrB_iff.mpr v0, by simp only; omega, by simp only; omega, by simp only [U_len, List.length_nil] at d6 ⊢; omega, by simp only; omega⟩
          · rw [en]; exact i64_int (by omega) (by omega)
        | nil =>
          refine br_intro (fun c => ?_) (fun d1 => ?_)
          · exact And.intro (bno fun hh => by have q := hh.ss i hi2; rw [hds] at q; have c := of_decide_eq_true c; have q := q.f0; simp only at q; omega) rfl
          refine br_intro (fun c => ?_) (fun d2 => ?_)
          · exact And.intro (bno fun hh => by have q := hh.ss i hi2; rw [hds] at q; have c := of_decide_eq_true c; have q := q.f7; simp only at q; omega) rfl
          refine CallS.pure (address_runs v) rfl ?_
          refine br_intro (fun c => ?_) (fun d3 => ?_)
          · exact And.intro (bno fun hh => by have q := hh.ss i hi2; rw [hds] at q; have q := q.v; simp only at q; rw [q] at c; exact absurd c (by decide)) rfl
          refine br_intro (fun c => ?_) (fun d4 => ?_)
          · exact And.intro (bno fun hh => by have q := hh.ss i hi2; rw [hds] at q; have c := of_decide_eq_true c; have q := q.s1; simp only at q; omega) rfl
          refine br_intro (fun c => ?_) (fun d5 => ?_)
          · exact And.intro (bno fun hh => by have q := hh.ss i hi2; rw [hds] at q; have c := of_decide_eq_true c; have q := q.s2; simp only at q; omega) rfl
          refine br_intro (fun c => ?_) (fun d6 => ?_)
          · exact And.intro (bno fun hh => by have q := hh.ss i hi2; rw [hds] at q; have c := of_decide_eq_true c; have q := q.d; simp only [U_len, List.length_nil] at q c; omega) rfl
          have v0 : 0 ≤ v ∧ v ≤ 70368744177664 := addrB_iff.mp (by cases hq : addrB v with | true => rfl | false => rw [hq] at d3; exact absurd d3 (by decide))
          refine CallS.pure (page_runs v0.1 (by omega)) rfl ?_
          refine br_intro (fun c => ?_) (fun d7 => ?_)
          · exact And.intro (bno fun hh => by have q := hh.ss i hi2; rw [hds] at q; have c := of_decide_eq_true c; have q := q.n; simp only at q; omega) rfl
          have d1 := of_decide_eq_false d1; have d2 := of_decide_eq_false d2; have d4 := of_decide_eq_false d4; have d5 := of_decide_eq_false d5; have d6 := of_decide_eq_false d6; have d7 := of_decide_eq_false d7
          have ew : IntKind.i64.wrap (IntKind.i64.wrap (v + s) - 1) = v + s - 1 := by rw [i64_int (n := v + s) (by omega) (by omega), i64_int (by omega) (by omega)]
          refine CallS.pure (show Runs Tryd.prog 30 [.int .i64 (IntKind.i64.wrap (IntKind.i64.wrap (v + s) - 1))] _ by rw [ew]; exact page_runs (by omega) (by omega)) rfl ?_
          have ei : ss[i]? = some ⟨f, v, s, []⟩ := by rw [List.getElem?_eq_getElem hi2, hds]
          have en : nxt ss (i + 1) = (v + s - 1) / 4096 + 1 := by simp only [nxt, ei]
          refine ⟨⟨i + 1, by omega, fun j hj hj2 => ?_⟩, weak_gc [0] rfl ⟨rfl, rfl, congrArg (fun x => some (AV.t (.int .i64 x))) ?_, rfl, rfl, congrArg (fun x => some (AV.t (.int .i64 x))) (i64_nat (n := i + 1) (by omega)), trivial⟩ ⟨rfl, trivial⟩, by show ss.length - (i + 1) < ss.length - i; omega⟩
          · by_cases e : j < i
            · exact hoks j hj e
            · obtain rfl : j = i := by omega
              rw [hds]
              exact ⟨by simp only; omega, by simp only; omega, addrB_iff.mpr v0, by simp only; omega, by simp only; omega, by simp only [U_len, List.length_nil] at d6 ⊢; omega, by simp only; omega⟩
          · rw [en]; exact i64_int (by omega) (by omega)
      have c : ¬ (i : Int) < (L.length : Int) := of_decide_eq_false c
      obtain rfl : i = ss.length := by omega
      refine loop_on (fun i : Nat => i ≤ ts.length ∧ ∀ j (h : j < ts.length), j < i → TlsOK ts[j]) (fun i => ⟨[(1, .ptr 0 0 0 0), (2, .t (.bool false)), (83, .t (.vec 4 L2)), (84, .t (.int .i64 (L2.length : Int))), (85, .t (.int .i64 (i : Int)))],
        [.box [.t (.int .i64 m), .t (.int .i64 e), .t (.vec 4 L), .t (.vec 4 L2)]]⟩) (fun i => ts.length - i) 0 ⟨Nat.zero_le _, fun j h h0 => absurd h0 (Nat.not_lt_zero _)⟩ ?_ (fun i hi0 => ?_)
      · exact weak_of ⟨rfl, rfl, rfl, rfl, rfl, trivial⟩ rfl
      obtain ⟨hi, hokt⟩ := hi0
      refine br_intro (fun c => ?_) (fun c => ?_)
      · have c : (i : Int) < (L2.length : Int) := of_decide_eq_true c
        have hi2 : i < ts.length := by omega
        have hLi : i < L2.length := by omega
        obtain ⟨f, v, s, dt, d, hd, hdl, hds, hLt⟩ : ∃ f v s dt d, BX dt d ∧ d.length ≤ 140737488351232 ∧ ts[i] = ⟨f, v, s, d⟩ ∧ L2[i] = .agg [.int .i64 f, .int .i64 v, .int .i64 s, dt] := by
          have := h2 i _ _ (List.getElem?_eq_getElem hLi) (List.getElem?_eq_getElem hi2)
          generalize L2[i] = a at this
          generalize ts[i] = b at this
          cases this with
          | mk f v s dt d h hl => exact ⟨f, v, s, dt, d, h, hl, rfl, rfl⟩
        refine opt_intro (show L2[((i : Int)).toNat]? = some (.agg [.int .i64 f, .int .i64 v, .int .i64 s, dt]) by rw [Int.toNat_natCast, List.getElem?_eq_getElem hLi, hLt]) ?_
        cases hd with
        | vec d M e' =>
          subst e'
          refine CallS.pure (address_runs f) rfl ?_
          refine br_intro (fun c => ?_) (fun d1 => ?_)
          · exact And.intro (bno fun hh => by have q := hh.ts i hi2; rw [hds] at q; have q := q.f; simp only at q; rw [q] at c; exact absurd c (by decide)) rfl
          refine br_intro (fun c => ?_) (fun d2 => ?_)
          · exact And.intro (bno fun hh => by have q := hh.ts i hi2; rw [hds] at q; have c := of_decide_eq_true c; have q := q.v0; simp only at q; omega) rfl
          refine br_intro (fun c => ?_) (fun d3 => ?_)
          · exact And.intro (bno fun hh => by have q := hh.ts i hi2; rw [hds] at q; have c := of_decide_eq_true c; have q := q.v1; simp only at q; omega) rfl
          refine br_intro (fun c => ?_) (fun d4 => ?_)
          · exact And.intro (bno fun hh => by have q := hh.ts i hi2; rw [hds] at q; have c := of_decide_eq_true c; have q := q.d; simp only [U_len, List.length_nil] at q c; omega) rfl
          refine br_intro (fun c => ?_) (fun d5 => ?_)
          · exact And.intro (bno fun hh => by have q := hh.ts i hi2; rw [hds] at q; have c := of_decide_eq_true c; have q := q.s1; simp only at q; omega) rfl
          refine br_intro (fun c => ?_) (fun d6 => ?_)
          · exact And.intro (bno fun hh => by have q := hh.ts i hi2; rw [hds] at q; have c := of_decide_eq_true c; have q := q.s2; simp only at q; omega) rfl
          refine br_intro (fun c => ?_) (fun d7 => ?_)
          · exact And.intro (bno fun hh => by have q := hh.ts i hi2; rw [hds] at q; have c : (bitsOp BinOp.and IntKind.i64 s (IntKind.i64.wrap (s - 1)) != 0) = true := c; have q := q.p; simp only at q; rw [q] at c; exact absurd c (by decide)) rfl
          have d2 := of_decide_eq_false d2; have d3 := of_decide_eq_false d3; have d4 := of_decide_eq_false d4; have d5 := of_decide_eq_false d5; have d6 := of_decide_eq_false d6
          have d7 : (bitsOp BinOp.and IntKind.i64 s (IntKind.i64.wrap (s - 1)) != 0) = false := d7
          have d7 : bitsOp BinOp.and IntKind.i64 s (IntKind.i64.wrap (s - 1)) = 0 := by simpa using d7
          have v0 : 0 ≤ f ∧ f ≤ 70368744177664 := addrB_iff.mp (by cases hq : addrB f with | true => rfl | false => rw [hq] at d1; exact absurd d1 (by decide))
          refine ⟨⟨i + 1, by omega, fun j hj hj2 => ?_⟩, weak_gc [0] rfl ⟨rfl, rfl, rfl, rfl, congrArg (fun x => some (AV.t (.int .i64 x))) (i64_nat (n := i + 1) (by omega)), trivial⟩ ⟨rfl, trivial⟩, by show ts.length - (i + 1) < ts.length - i; omega⟩
          by_cases e : j < i
          · exact hokt j hj e
          · obtain rfl : j = i := by omega
            rw [hds]
            exact ⟨addrB_iff.mpr v0, by simp only; omega, by simp only; omega, by simp only [U_len, List.length_nil] at d4 ⊢; omega, by simp only; omega, by simp only; omega, d7⟩
        | nil =>
          refine CallS.pure (address_runs f) rfl ?_
          refine br_intro (fun c => ?_) (fun d1 => ?_)
          · exact And.intro (bno fun hh => by have q := hh.ts i hi2; rw [hds] at q; have q := q.f; simp only at q; rw [q] at c; exact absurd c (by decide)) rfl
          refine br_intro (fun c => ?_) (fun d2 => ?_)
          · exact And.intro (bno fun hh => by have q := hh.ts i hi2; rw [hds] at q; have c := of_decide_eq_true c; have q := q.v0; simp only at q; omega) rfl
          refine br_intro (fun c => ?_) (fun d3 => ?_)
          · exact And.intro (bno fun hh => by have q := hh.ts i hi2; rw [hds] at q; have c := of_decide_eq_true c; have q := q.v1; simp only at q; omega) rfl
          refine br_intro (fun c => ?_) (fun d4 => ?_)
          · exact And.intro (bno fun hh => by have q := hh.ts i hi2; rw [hds] at q; have c := of_decide_eq_true c; have q := q.d; simp only [U_len, List.length_nil] at q c; omega) rfl
          refine br_intro (fun c => ?_) (fun d5 => ?_)
          · exact And.intro (bno fun hh => by have q := hh.ts i hi2; rw [hds] at q; have c := of_decide_eq_true c; have q := q.s1; simp only at q; omega) rfl
          refine br_intro (fun c => ?_) (fun d6 => ?_)
          · exact And.intro (bno fun hh => by have q := hh.ts i hi2; rw [hds] at q; have c := of_decide_eq_true c; have q := q.s2; simp only at q; omega) rfl
          refine br_intro (fun c => ?_) (fun d7 => ?_)
          · exact And.intro (bno fun hh => by have q := hh.ts i hi2; rw [hds] at q; have c : (bitsOp BinOp.and IntKind.i64 s (IntKind.i64.wrap (s - 1)) != 0) = true := c; have q := q.p; simp only at q; rw [q] at c; exact absurd c (by decide)) rfl
          have d2 := of_decide_eq_false d2; have d3 := of_decide_eq_false d3; have d4 := of_decide_eq_false d4; have d5 := of_decide_eq_false d5; have d6 := of_decide_eq_false d6
          have d7 : (bitsOp BinOp.and IntKind.i64 s (IntKind.i64.wrap (s - 1)) != 0) = false := d7
          have d7 : bitsOp BinOp.and IntKind.i64 s (IntKind.i64.wrap (s - 1)) = 0 := by simpa using d7
          have v0 : 0 ≤ f ∧ f ≤ 70368744177664 := addrB_iff.mp (by cases hq : addrB f with | true => rfl | false => rw [hq] at d1; exact absurd d1 (by decide))
          refine ⟨⟨i + 1, by omega, fun j hj hj2 => ?_⟩, weak_gc [0] rfl ⟨rfl, rfl, rfl, rfl, congrArg (fun x => some (AV.t (.int .i64 x))) (i64_nat (n := i + 1) (by omega)), trivial⟩ ⟨rfl, trivial⟩, by show ts.length - (i + 1) < ts.length - i; omega⟩
          by_cases e : j < i
          · exact hokt j hj e
          · obtain rfl : j = i := by omega
            rw [hds]
            exact ⟨addrB_iff.mpr v0, by simp only; omega, by simp only; omega, by simp only [U_len, List.length_nil] at d4 ⊢; omega, by simp only; omega, by simp only; omega, d7⟩
      have c : ¬ (i : Int) < (L2.length : Int) := of_decide_eq_false c
      obtain rfl : i = ts.length := by omega
      exact And.intro (byes ⟨by have c := of_decide_eq_false c1; simp only; omega, by have c := of_decide_eq_false c2; simp only; omega, by have c := of_decide_eq_false c3; simp only; omega, by have c := of_decide_eq_false c4; simp only; omega, fun i h => hoks i h h, fun i h => hokt i h h⟩) rfl

end Go.Proofs.YthpkehhghcpolaaDoor
