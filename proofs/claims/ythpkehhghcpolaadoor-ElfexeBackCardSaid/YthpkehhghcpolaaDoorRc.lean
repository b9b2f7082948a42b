/-
  An executable's file, read: rows told anew, data of which it is left open whether they are nil (ground of the walks).
-/
import Derived.Test.YthpkehhghcpolaaDoorRa
import Derived.Test.YthpkehhghcpolaaDoorFd
namespace Go.Proofs.YthpkehhghcpolaaDoor
open Go.IntWalk
set_option maxRecDepth 100000
set_option linter.unusedVariables false
set_option linter.unusedSimpArgs false
set_option maxHeartbeats 2000000

/-- A row of plain data, whose last element is told with less. -/
theorem frz_lastT {ids : List Nat} {H H' : AH} (e s : Nat) (z : Bool) (g : Nat) (A : List T) (ts ts' : List T) (hl : ts'.length = ts.length) (h : ∀ (j : Nat) y y', ts[j]? = some y → ts'[j]? = some y' → SubT y y') :
    FrzB ids H H' (.arr e s z g (.ts (A ++ [.agg ts]))) (.arr e s z g (.ts (A ++ [.agg ts']))) := by
  refine .arr e s z g _ _ (by simp [Sq.length]) fun i x' hi => ?_
  simp only [Sq.get, Option.map_eq_some_iff] at hi ⊢
  obtain ⟨t, hi, rfl⟩ := hi
  by_cases hlt : i < A.length
  · rw [List.getElem?_append_left hlt] at hi
    exact ⟨.t t, ⟨t, by rw [List.getElem?_append_left hlt]; exact hi, rfl⟩, rfl, fun j y' hj => ⟨y', hj, .same _⟩⟩
  · rw [List.getElem?_append_right (by omega)] at hi
    have hi0 : i - A.length = 0 := by have := lt_of_getElem? hi; simp at this; omega
    rw [hi0] at hi
    simp at hi
    subst hi
    refine ⟨.t (.agg ts), ⟨.agg ts, by rw [List.getElem?_append_right (by omega)]; simp [hi0], rfl⟩, by simp [AV.cells, hl], fun j y' hj => ?_⟩
    simp only [AV.cells, List.getElem?_map, Option.map_eq_some_iff] at hj
    obtain ⟨t, ht, rfl⟩ := hj
    have hjl : j < ts.length := by have := lt_of_getElem? ht; omega
    refine ⟨.t ts[j], ?_, .sub _ _ (h j _ t (List.getElem?_eq_getElem hjl) ht)⟩
    show (ts.map AV.t)[j]? = _
    rw [List.getElem?_map, List.getElem?_eq_getElem hjl]; rfl

/-- A function of a slice, nil or not. -/
theorem RunsX.vecd {P : Program} {f : FuncId} {s : Nat} {l : List T} {S : AV → Prop} (h0 : l = [] → RunsX P f [.nils] S) (h1 : RunsX P f [.vec s l] S) : RunsX P f [.vecd s l] S := by
  refine ⟨h1.1, fun n F w vs hF hl hr => ?_⟩
  have hv : 0 < vs.size := by rw [hl]; exact Nat.one_pos
  have h := hr 0 (.vecd s l) vs[0] rfl (Array.getElem?_eq_getElem hv)
  have one : ∀ (t : T), RT w F t vs[0] → ∀ (i : Nat) t' v, ([t] : List T)[i]? = some t' → vs[i]? = some v → RT w F t' v := fun t ht i t' v hi hv' => by
    cases i with
    | zero =>
      cases hi
      rw [Array.getElem?_eq_getElem hv] at hv'
      cases hv'
      exact ht
    | succ i => simp at hi
  generalize hx : vs[0] = v0 at h one
  cases h with
  | vecd0 => exact (h0 rfl).2 n F w vs hF hl (one _ .nils)
  | vecd _ _ _ h => exact h1.2 n F w vs hF hl (one _ h)

def DataS (t : T) (r : AV) : Prop := r = .t t
theorem cloneN_runs (d : List UInt8) (h : d.length ≤ 140737488351232) : RunsX Tryd.prog 38 [.vecd 1 (U d)] (DataS (.vecd 1 (U d))) := by
  have hU : (U d).length = d.length := U_len _
  refine RunsX.vecd (fun h0 => ?_) ?_
  · rw [h0]
    refine RunsX.of_call ?_ (by rintro r rfl; rfl)
    refine CallS.of_fn tabS_ok regS_ok Tryd.func38 rfl rfl ?_
    exact ⟨_, rfl, _, _, rfl, .refl _⟩
  · obtain ⟨M, hM⟩ : ∃ M, M = U d := ⟨_, rfl⟩
    rw [← hM] at hU ⊢
    refine RunsX.of_call ?_ (by rintro r rfl; rfl)
    refine CallS.of_fn tabS_ok regS_ok Tryd.func38 rfl rfl ?_
    refine Or.inl (And.intro rfl (ck_intro (show fitsRow (0 + M.length) 1 = true by simp [fitsRow]; omega) ?_))
    exact ⟨_, rfl, _, _, rfl, .trans _ _ _ (.of_eq (congrArg (T.vec 1) (show List.take (0 + M.length) (List.drop 0 ([] ++ M)) = M by simp))) (.vec 1 _)⟩

end Go.Proofs.YthpkehhghcpolaaDoor
