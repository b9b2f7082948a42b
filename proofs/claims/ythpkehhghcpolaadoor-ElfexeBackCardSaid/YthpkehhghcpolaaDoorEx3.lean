/-
  Has an executable too many segments, or too much memory?
-/
import Derived.Test.YthpkehhghcpolaaDoorEx2
namespace Go.Proofs.YthpkehhghcpolaaDoor
open Go.IntWalk
set_option maxRecDepth 100000
set_option linter.unusedVariables false
set_option linter.unusedSimpArgs false

/-- The memory of the first i segments. -/
def sizes (ss : List SegD) : Nat → Int
  | 0 => 0
  | i + 1 => sizes ss i + match ss[i]? with | some s => s.s | none => 0

theorem sizes_le {ss : List SegD} (h : ∀ i (h : i < ss.length), 1 ≤ ss[i].s ∧ ss[i].s ≤ 67108864) : ∀ i, i ≤ ss.length → 0 ≤ sizes ss i ∧ sizes ss i ≤ 67108864 * (i : Int)
  | 0, _ => by simp [sizes]
  | i + 1, hi => by
    obtain ⟨h1, h2⟩ := sizes_le h i (by omega)
    obtain ⟨h3, h4⟩ := h i (by omega)
    simp only [sizes, List.getElem?_eq_getElem (show i < ss.length by omega)]
    omega

theorem nxt_le {x : ExeD} (hx : SoundP x) : ∀ i, i ≤ x.ss.length → (i : Int) ≤ nxt x.ss i
  | 0, _ => by simp [nxt]
  | i + 1, h => by
    have ih := nxt_le hx i (by omega)
    have q := hx.ss i (by omega)
    have q1 := q.n; have q2 := q.s1
    simp only [nxt, List.getElem?_eq_getElem (show i < x.ss.length by omega)]
    omega

theorem sound_len {x : ExeD} (hx : SoundP x) : x.ss.length ≤ 17179869185 := by
  by_cases h : x.ss.length = 0
  · omega
  have a := nxt_le hx (x.ss.length - 1) (by omega)
  have q := hx.ss (x.ss.length - 1) (by omega)
  have q1 := q.n; have q2 := addrB_iff.mp q.v
  omega

def manyP (x : ExeD) : Prop := 32 < x.ss.length ∨ 67108864 < sizes x.ss x.ss.length
instance (x : ExeD) : Decidable (manyP x) := inferInstanceAs (Decidable (_ ∨ _))

set_option maxHeartbeats 4000000 in
theorem many_runs {t : T} {x : ExeD} (h : ExeX t x) (hx0 : SoundP x) : Runs Tryd.prog 23 [t] (.t (.bool (decide (manyP x)))) := by
  have hb : ∀ i (h : i < x.ss.length), 1 ≤ x.ss[i].s ∧ x.ss[i].s ≤ 67108864 := fun i h => ⟨(hx0.ss i h).s1, (hx0.ss i h).s2⟩
  have hsl0 := sound_len hx0
  clear hx0
  cases h with
  | mk m e st tt ss ts hs ht hsl htl =>
  simp only at hb hsl0
  have hsz := sizes_le hb
  have fin : ∀ {b : Bool}, (b = true ↔ manyP ⟨m, e, ss, ts⟩) → some (T.bool b) = some (T.bool (decide (manyP ⟨m, e, ss, ts⟩))) := fun {b} hh => congrArg (fun b => some (T.bool b)) (by cases b with | true => exact (decide_eq_true (hh.mp rfl)).symm | false => exact (decide_eq_false fun q => absurd (hh.mpr q) (by decide)).symm)
  refine Runs.of_call ?_ rfl
  refine CallS.of_fn tab_ok reg_ok Tryd.func23 rfl rfl ?_
  cases hs with
  | nil =>
    cases ht with
    | nil =>
      refine loop_on (fun i : Nat => i = 0) (fun i => ⟨[(1, .ptr 0 0 0 0), (2, .t (.bool false)), (3, .t (.int .i64 0)), (7, .t .nils), (8, .t (.int .i64 0)), (9, .t (.int .i64 (i : Int)))],
        [.box [.t (.int .i64 m), .t (.int .i64 e), .t .nils, .t .nils]]⟩) (fun i => 0) 0 rfl ?_ (fun i hi => ?_)
      · exact weak_of ⟨rfl, rfl, rfl, rfl, rfl, rfl, trivial⟩ rfl
      subst hi
      exact And.intro (bno fun hh => by rcases hh with hh | hh <;> simp [sizes] at hh) rfl
    | vec _ L2 hl2 h2 =>
      refine loop_on (fun i : Nat => i = 0) (fun i => ⟨[(1, .ptr 0 0 0 0), (2, .t (.bool false)), (3, .t (.int .i64 0)), (7, .t .nils), (8, .t (.int .i64 0)), (9, .t (.int .i64 (i : Int)))],
        [.box [.t (.int .i64 m), .t (.int .i64 e), .t .nils, .t (.vec 4 L2)]]⟩) (fun i => 0) 0 rfl ?_ (fun i hi => ?_)
      · exact weak_of ⟨rfl, rfl, rfl, rfl, rfl, rfl, trivial⟩ rfl
      subst hi
      exact And.intro (bno fun hh => by rcases hh with hh | hh <;> simp [sizes] at hh) rfl
  | vec _ L hl h =>
    cases ht with
    | nil =>
      refine loop_on (fun i : Nat => i ≤ ss.length) (fun i => ⟨[(1, .ptr 0 0 0 0), (2, .t (.bool false)), (3, .t (.int .i64 (sizes ss i))), (7, .t (.vec 4 L)), (8, .t (.int .i64 (L.length : Int))), (9, .t (.int .i64 (i : Int)))],
        [.box [.t (.int .i64 m), .t (.int .i64 e), .t (.vec 4 L), .t .nils]]⟩) (fun i => ss.length - i) 0 (Nat.zero_le _) ?_ (fun i hi => ?_)
      · exact weak_of ⟨rfl, rfl, rfl, rfl, rfl, rfl, trivial⟩ rfl
      refine br_intro (fun c => ?_) (fun c => ?_)
      · have c : (i : Int) < (L.length : Int) := of_decide_eq_true c
        have hi2 : i < ss.length := by omega
        have hLi : i < L.length := by omega
        obtain ⟨f, v, s, dt, d, hd, hdl, hds, hLt⟩ : ∃ f v s dt d, BX dt d ∧ d.length ≤ 140737488351232 ∧ ss[i] = ⟨f, v, s, d⟩ ∧ L[i] = .agg [.int .i64 f, .int .i64 v, .int .i64 s, dt] := by
          have := h i _ _ (List.getElem?_eq_getElem hLi) (List.getElem?_eq_getElem hi2)
          generalize L[i] = a at this
          generalize ss[i] = b at this
          cases this with
          | mk f v s dt d h hl => exact ⟨f, v, s, dt, d, h, hl, rfl, rfl⟩
        refine opt_intro (show L[((i : Int)).toNat]? = some (.agg [.int .i64 f, .int .i64 v, .int .i64 s, dt]) by rw [Int.toNat_natCast, List.getElem?_eq_getElem hLi, hLt]) ?_
        have hz := hsz i hi
        have hz2 := hb i hi2
        rw [hds] at hz2
        simp only at hz2
        have en : sizes ss (i + 1) = sizes ss i + s := by simp only [sizes, List.getElem?_eq_getElem hi2, hds]
        cases hd with
        | vec d M e' =>
          exact ⟨⟨i + 1, by omega⟩, weak_gc [0] rfl ⟨rfl, rfl, congrArg (fun x => some (AV.t (.int .i64 x))) (by rw [en]; exact i64_int (by omega) (by omega)), rfl, rfl, congrArg (fun x => some (AV.t (.int .i64 x))) (i64_nat (n := i + 1) (by omega)), trivial⟩ ⟨rfl, trivial⟩, by show ss.length - (i + 1) < ss.length - i; omega⟩
        | nil =>
          exact ⟨⟨i + 1, by omega⟩, weak_gc [0] rfl ⟨rfl, rfl, congrArg (fun x => some (AV.t (.int .i64 x))) (by rw [en]; exact i64_int (by omega) (by omega)), rfl, rfl, congrArg (fun x => some (AV.t (.int .i64 x))) (i64_nat (n := i + 1) (by omega)), trivial⟩ ⟨rfl, trivial⟩, by show ss.length - (i + 1) < ss.length - i; omega⟩
      have c : ¬ (i : Int) < (L.length : Int) := of_decide_eq_false c
      obtain rfl : i = ss.length := by omega
      refine br_intro (fun c => ?_) (fun c2 => ?_)
      · have c := of_decide_eq_true c
        exact And.intro (byes (.inl (by simp only; omega))) rfl
      have c2 := of_decide_eq_false c2
      refine And.intro (fin ?_) rfl
      show decide (_ > _) = true ↔ _
      rw [decide_eq_true_iff]
      exact ⟨fun q => .inr (by simp only; omega), fun q => by rcases q with q | q <;> simp only at q <;> omega⟩
    | vec _ L2 hl2 h2 =>
      refine loop_on (fun i : Nat => i ≤ ss.length) (fun i => ⟨[(1, .ptr 0 0 0 0), (2, .t (.bool false)), (3, .t (.int .i64 (sizes ss i))), (7, .t (.vec 4 L)), (8, .t (.int .i64 (L.length : Int))), (9, .t (.int .i64 (i : Int)))],
        [.box [.t (.int .i64 m), .t (.int .i64 e), .t (.vec 4 L), .t (.vec 4 L2)]]⟩) (fun i => ss.length - i) 0 (Nat.zero_le _) ?_ (fun i hi => ?_)
      · exact weak_of ⟨rfl, rfl, rfl, rfl, rfl, rfl, trivial⟩ rfl
      refine br_intro (fun c => ?_) (fun c => ?_)
      · have c : (i : Int) < (L.length : Int) := of_decide_eq_true c
        have hi2 : i < ss.length := by omega
        have hLi : i < L.length := by omega
        obtain ⟨f, v, s, dt, d, hd, hdl, hds, hLt⟩ : ∃ f v s dt d, BX dt d ∧ d.length ≤ 140737488351232 ∧ ss[i] = ⟨f, v, s, d⟩ ∧ L[i] = .agg [.int .i64 f, .int .i64 v, .int .i64 s, dt] := by
          have := h i _ _ (List.getElem?_eq_getElem hLi) (List.getElem?_eq_getElem hi2)
          generalize L[i] = a at this
          generalize ss[i] = b at this
          cases this with
          | mk f v s dt d h hl => exact ⟨f, v, s, dt, d, h, hl, rfl, rfl⟩
        refine opt_intro (show L[((i : Int)).toNat]? = some (.agg [.int .i64 f, .int .i64 v, .int .i64 s, dt]) by rw [Int.toNat_natCast, List.getElem?_eq_getElem hLi, hLt]) ?_
        have hz := hsz i hi
        have hz2 := hb i hi2
        rw [hds] at hz2
        simp only at hz2
        have en : sizes ss (i + 1) = sizes ss i + s := by simp only [sizes, List.getElem?_eq_getElem hi2, hds]
        cases hd with
        | vec d M e' =>
          exact ⟨⟨i + 1, by omega⟩, weak_gc [0] rfl ⟨rfl, rfl, congrArg (fun x => some (AV.t (.int .i64 x))) (by rw [en]; exact i64_int (by omega) (by omega)), rfl, rfl, congrArg (fun x => some (AV.t (.int .i64 x))) (i64_nat (n := i + 1) (by omega)), trivial⟩ ⟨rfl, trivial⟩, by show ss.length - (i + 1) < ss.length - i; omega⟩
        | nil =>
          exact ⟨⟨i + 1, by omega⟩, weak_gc [0] rfl ⟨rfl, rfl, congrArg (fun x => some (AV.t (.int .i64 x))) (by rw [en]; exact i64_int (by omega) (by omega)), rfl, rfl, congrArg (fun x => some (AV.t (.int .i64 x))) (i64_nat (n := i + 1) (by omega)), trivial⟩ ⟨rfl, trivial⟩, by show ss.length - (i + 1) < ss.length - i; omega⟩
      have c : ¬ (i : Int) < (L.length : Int) := of_decide_eq_false c
      obtain rfl : i = ss.length := by omega
      refine br_intro (fun c => ?_) (fun c2 => ?_)
      · have c := of_decide_eq_true c
        exact And.intro (byes (.inl (by simp only; omega))) rfl
      have c2 := of_decide_eq_false c2
      refine And.intro (fin ?_) rfl
      show decide (_ > _) = true ↔ _
      rw [decide_eq_true_iff]
      exact ⟨fun q => .inr (by simp only; omega), fun q => by rcases q with q | q <;> simp only at q <;> omega⟩

end Go.Proofs.YthpkehhghcpolaaDoor
