/-
  The document's answer on bits: lists of bits, as the walk shows them.
-/
import Derived.Test.YtkjhkcpgkccocaaBva
import Derived.Test.YtkjhkcpgkccocaaGc
namespace Go.Proofs.Ytkjhkcpgkccocaa
open Go.IntWalk
set_option maxRecDepth 100000
set_option linter.unusedVariables false
set_option linter.unusedSimpArgs false

def LB (l : List Bool) : List T := l.map T.bool
theorem LB_len (l : List Bool) : (LB l).length = l.length := by simp [LB]
theorem LB_get (l : List Bool) (k : Nat) (h : k < l.length) : (LB l)[k]? = some (.bool l[k]) := by simp [LB, h]

/-- A list of bits that comes in. -/
inductive BL : T → List Bool → Prop
  | vec (l : List Bool) (L : List T) (h : L = LB l) : BL (.vec 1 L) l
  | nil : BL .nils []

abbrev tB : Nat := 4

/-- A list of bits that goes out. -/
def oB (l : List Bool) : AV := .own tB 1 false (LB l)

theorem oB_flat (l : List Bool) : Flat (oB l) := by
  intro x hx
  simp only [LB, List.mem_map] at hx
  obtain ⟨b, _, rfl⟩ := hx
  rfl

theorem LB_snoc (l : List Bool) (b : Bool) : LB (l ++ [b]) = LB l ++ [.bool b] := by simp [LB]

theorem fits1 {n : Nat} (h : n ≤ 100000) : fitsRow n 1 = true := by simp [fitsRow]; omega

def notS (l : List Bool) (k : Nat) : St :=
  ⟨[(7, .t (.vec 1 (LB l))), (8, .t (.int .i64 l.length)), (9, .t (.int .i64 k)), (3, .sl 1 0 0 k)], [.arr tB 1 true 0 (.ts []), .arr tB 1 false 0 (.ts (LB ((l.take k).map not)))]⟩

theorem lnot_runs {L : List T} {l : List Bool} (h : L = LB l) (hl : l.length ≤ 1000) : Runs Try.prog 57 [.vec 1 L] (oB (l.map not)) := by
  subst h
  refine Runs.of_call ?_ rfl
  refine CallS.of_fn tab_ok reg_ok Try.func57 rfl rfl ?_
  refine loop_on (fun k : Nat => k ≤ l.length) (notS l) (fun k => l.length - k) 0 (by omega) (weak_of ⟨rfl, ?_, rfl, rfl, trivial⟩ rfl) (fun k hk => ?_)
  · exact congrArg (fun n : Nat => AV.t (.int .i64 n)) (LB_len l)
  refine br_intro (fun h => ?_) (fun h => ?_)
  · have h := of_decide_eq_true h
    have hk2 : k < l.length := by omega
    refine opt_intro (LB_get l k hk2) ?_
    refine And.intro (by simp [Sq.length, LB]; omega) (ck_intro (fits1 (n := k + 1) (by omega)) ?_)
    have e : LB ((l.take (k + 1)).map not) = LB ((l.take k).map not) ++ [.bool (!l[k])] := by
      rw [List.take_succ_eq_append_getElem hk2, List.map_append, List.map_cons, List.map_nil, LB_snoc]
    refine ⟨⟨k + 1, by omega⟩, weak_gc [0, 1] rfl ⟨rfl, rfl, ?_, rfl, trivial⟩ ⟨rfl, ?_, trivial⟩, by show l.length - (k + 1) < l.length - k; omega⟩
    · exact congrArg (fun x => some (AV.t (.int .i64 x))) (i64_in _ (by omega))
    · exact congrArg (fun x => some (Blk.arr tB 1 false 0 (.ts x))) e.symm
  · have h := of_decide_eq_false h
    have hk : k = l.length := by omega
    subst hk
    rw [List.take_length]
    exact And.intro ⟨rfl, rfl, by simp [LB]⟩ rfl

/-- The lowest w bits, filled up. -/
def cutL (l : List Bool) (w : Nat) (fill : Bool) : List Bool := (List.range w).map fun i => (l[i]?).getD fill

theorem cutL_len (l : List Bool) (w : Nat) (fill : Bool) : (cutL l w fill).length = w := by simp [cutL]
theorem cutL_succ (l : List Bool) (w : Nat) (fill : Bool) : cutL l (w + 1) fill = cutL l w fill ++ [(l[w]?).getD fill] := by
  simp [cutL, List.range_succ]

def cutS (x : T) (l : List Bool) (w : Int) (fill : Bool) (k : Nat) : St :=
  ⟨[(0, .t x), (1, .t (.int .i64 w)), (2, .t (.bool fill)), (8, .t (.int .i64 k)), (7, .sl 1 0 0 k)], [.arr tB 1 true 0 (.ts []), .arr tB 1 false 0 (.ts (LB (cutL l k fill)))]⟩

theorem cut_runs {x : T} {l : List Bool} (hx : BL x l) (hl : l.length ≤ 1000) (w : Int) (hw : 0 ≤ w) (hw2 : w ≤ 1000) (fill : Bool) : Runs Try.prog 71 [x, .int .i64 w, .bool fill] (oB (cutL l w.toNat fill)) := by
  refine Runs.of_call ?_ rfl
  refine CallS.of_fn tab_ok reg_ok Try.func71 rfl rfl ?_
  refine loop_on (fun k : Nat => (k : Int) ≤ w) (cutS x l w fill) (fun k => w.toNat - k) 0 (by omega) (weak_of ⟨rfl, rfl, rfl, rfl, rfl, trivial⟩ rfl) (fun k hk => ?_)
  refine br_intro (fun h => ?_) (fun h => ?_)
  · have h := of_decide_eq_true h
    have next : ∀ b, (l[k]?).getD fill = b → LB (cutL l (k + 1) fill) = LB (cutL l k fill) ++ [.bool b] := fun b hb => by rw [cutL_succ, hb, LB_snoc]
    have ek : IntKind.i64.wrap ((k : Int) + 1) = ((k + 1 : Nat) : Int) := i64_in _ (by omega)
    have hlen : (LB (cutL l k fill)).length = k := by simp [LB, cutL]
    cases hx with
    | nil =>
      refine And.intro hlen.symm (ck_intro (fits1 (n := k + 1) (by omega)) ?_)
      refine ⟨⟨k + 1, by omega⟩, weak_gc [0, 1] rfl ⟨rfl, rfl, rfl, congrArg (fun x => some (AV.t (.int .i64 x))) ek, rfl, trivial⟩ ⟨rfl, ?_, trivial⟩, by show w.toNat - (k + 1) < w.toNat - k; omega⟩
      exact congrArg (fun x => some (Blk.arr tB 1 false 0 (.ts x))) (next fill rfl).symm
    | vec _ L e =>
      subst e
      refine br_intro (fun h2 => ?_) (fun h2 => ?_)
      · have h2 := of_decide_eq_true h2
        have hk2 : k < l.length := by rw [LB_len] at h2; omega
        refine opt_intro (LB_get l k hk2) ?_
        refine And.intro hlen.symm (ck_intro (fits1 (n := k + 1) (by omega)) ?_)
        refine ⟨⟨k + 1, by omega⟩, weak_gc [0, 1] rfl ⟨rfl, rfl, rfl, congrArg (fun x => some (AV.t (.int .i64 x))) ek, rfl, trivial⟩ ⟨rfl, ?_, trivial⟩, by show w.toNat - (k + 1) < w.toNat - k; omega⟩
        exact congrArg (fun x => some (Blk.arr tB 1 false 0 (.ts x))) (next l[k] (by simp [hk2])).symm
      · have h2 := of_decide_eq_false h2
        have hk2 : ¬ k < l.length := by rw [LB_len] at h2; omega
        refine And.intro hlen.symm (ck_intro (fits1 (n := k + 1) (by omega)) ?_)
        refine ⟨⟨k + 1, by omega⟩, weak_gc [0, 1] rfl ⟨rfl, rfl, rfl, congrArg (fun x => some (AV.t (.int .i64 x))) ek, rfl, trivial⟩ ⟨rfl, ?_, trivial⟩, by show w.toNat - (k + 1) < w.toNat - k; omega⟩
        exact congrArg (fun x => some (Blk.arr tB 1 false 0 (.ts x))) (next fill (by rw [List.getElem?_eq_none (by omega)]; rfl)).symm
  · have h := of_decide_eq_false h
    have hk : k = w.toNat := by omega
    subst hk
    exact And.intro ⟨rfl, rfl, by simp [LB, cutL]⟩ rfl

end Go.Proofs.Ytkjhkcpgkccocaa
