/-
  Registers: their widths, as the program and the document reckon them.
-/
import Derived.Test.YtnjmeadmkbkikaaGreatDoorWa
namespace Go.Proofs.YtnjmeadmkbkikaaGreatDoor
open Go.IntWalk
set_option maxRecDepth 100000
set_option linter.unusedVariables false
set_option linter.unusedSimpArgs false

noncomputable def reg : RegP := regD Tryz.prog tab
noncomputable def regS : RegP := regD Tryz.prog tabS
theorem regS_ok : RegOK Tryz.prog tabS regS := regD_ok tabS_ok mixed

theorem draw_introS {ops : Array Oper} {s : St} {K : St → Prop} (σ : Ord) (h : drawOK ops (masks ops) σ [] [] = true) (k : xdr tabS (CallS Tryz.prog) ops (fun _ => []) σ s K) : regS ops s K := ⟨_, σ, h, k⟩

theorem bfin {p : Prop} [Decidable p] (b : Bool) (h : b = true ↔ p) : some (T.bool b) = some (T.bool (decide p)) := by
  congr 2
  by_cases hp : p
  · rw [h.2 hp]; simp [hp]
  · have : b = false := by cases b <;> simp_all
    rw [this]; simp [hp]
theorem bno {p : Prop} [Decidable p] (h : ¬ p) : some (T.bool false) = some (T.bool (decide p)) := bfin false (iff_of_false (by simp) h)
theorem byes {p : Prop} [Decidable p] (h : p) : some (T.bool true) = some (T.bool (decide p)) := bfin true (iff_of_true rfl h)
theorem nb {b : Bool} (h : (!b) = true) : b = false := by simpa using h
theorem nf {b : Bool} (h : (!b) = false) : b = true := by simpa using h
theorem dt {p : Prop} [Decidable p] (h : decide p = true) : p := of_decide_eq_true h
theorem df {p : Prop} [Decidable p] (h : decide p = false) : ¬ p := of_decide_eq_false h

/-- An element of a list, by a number that may be anything. -/
def at? {α : Type} (l : List α) (n : Int) : Option α := if 0 ≤ n then l[n.toNat]? else none

theorem at_some {α : Type} {l : List α} {n : Int} (h : 0 ≤ n ∧ n < l.length) : ∃ a, at? l n = some a ∧ a ∈ l ∧ l[n.toNat]? = some a := by
  have hn : n.toNat < l.length := by omega
  refine ⟨l[n.toNat], ?_, List.getElem_mem hn, List.getElem?_eq_getElem hn⟩
  rw [at?, if_pos h.1, List.getElem?_eq_getElem hn]
theorem at_none {α : Type} {l : List α} {n : Int} (h : ¬ (0 ≤ n ∧ n < l.length)) : at? l n = none := by
  unfold at?
  split
  · exact List.getElem?_eq_none (by omega)
  · rfl

def FileD.fine (x : FileD) : Prop := 1 ≤ x.count ∧ x.count ≤ 64 ∧ 1 ≤ x.width ∧ x.width ≤ 64 ∧ -1 ≤ x.zero ∧ x.zero < x.count
instance (x : FileD) : Decidable x.fine := inferInstanceAs (Decidable (_ ∧ _))

theorem among_runs (n m : Int) : Runs Tryz.prog 51 [.int .i64 n, .int .i64 m] (.t (.bool (decide (0 ≤ n ∧ n < m)))) := by
  refine Runs.of_call ?_ rfl
  refine CallS.of_fn tabS_ok regS_ok Tryz.func51 rfl rfl ?_
  refine br_intro (fun c => ?_) (fun c => ?_)
  · exact And.intro (congrArg (fun b => some (T.bool b)) (decide_eq_decide.mpr ⟨fun h => ⟨dt c, h⟩, fun h => h.2⟩)) rfl
  · exact And.intro (bno fun h => df c h.1) rfl

theorem place_runs (n m : Int) : Runs Tryz.prog 89 [.int .i64 n, .int .i64 m] (.t (.bool (decide (0 ≤ n ∧ n < m)))) := by
  refine Runs.of_call ?_ rfl
  refine CallS.of_fn tabS_ok regS_ok Tryz.func89 rfl rfl ?_
  refine br_intro (fun c => ?_) (fun c => ?_)
  · exact And.intro (congrArg (fun b => some (T.bool b)) (decide_eq_decide.mpr ⟨fun h => ⟨dt c, h⟩, fun h => h.2⟩)) rfl
  · exact And.intro (bno fun h => df c h.1) rfl

theorem file_runs (x : FileD) : Runs Tryz.prog 54 [fileT x] (.t (.bool (decide x.fine))) := by
  refine Runs.of_call ?_ rfl
  refine CallS.of_fn tabS_ok regS_ok Tryz.func54 rfl rfl ?_
  refine br_intro (fun c1 => ?_) (fun c => ?_)
  · refine br_intro (fun c2 => ?_) (fun c => ?_)
    · refine br_intro (fun c3 => ?_) (fun c => ?_)
      · refine br_intro (fun c4 => ?_) (fun c => ?_)
        · refine br_intro (fun c5 => ?_) (fun c => ?_)
          · exact And.intro (congrArg (fun b => some (T.bool b)) (decide_eq_decide.mpr ⟨fun h => ⟨dt c1, dt c2, dt c3, dt c4, dt c5, h⟩, fun h => h.2.2.2.2.2⟩)) rfl
          · exact And.intro (bno fun h => df c h.2.2.2.2.1) rfl
        · exact And.intro (bno fun h => df c h.2.2.2.1) rfl
      · exact And.intro (bno fun h => df c h.2.2.1) rfl
    · exact And.intro (bno fun h => df c h.2.1) rfl
  · exact And.intro (bno fun h => df c h.1) rfl

theorem file_runs_r (x : FileD) : Runs Tryz.prog 134 [fileT x] (.t (.bool (decide x.fine))) := by
  refine Runs.of_call ?_ rfl
  refine CallS.of_fn tabS_ok regS_ok Tryz.func134 rfl rfl ?_
  refine br_intro (fun c1 => ?_) (fun c => ?_)
  · refine br_intro (fun c2 => ?_) (fun c => ?_)
    · refine br_intro (fun c3 => ?_) (fun c => ?_)
      · refine br_intro (fun c4 => ?_) (fun c => ?_)
        · refine br_intro (fun c5 => ?_) (fun c => ?_)
          · exact And.intro (congrArg (fun b => some (T.bool b)) (decide_eq_decide.mpr ⟨fun h => ⟨dt c1, dt c2, dt c3, dt c4, dt c5, h⟩, fun h => h.2.2.2.2.2⟩)) rfl
          · exact And.intro (bno fun h => df c h.2.2.2.2.1) rfl
        · exact And.intro (bno fun h => df c h.2.2.2.1) rfl
      · exact And.intro (bno fun h => df c h.2.2.1) rfl
    · exact And.intro (bno fun h => df c h.2.1) rfl
  · exact And.intro (bno fun h => df c h.1) rfl

theorem given_runs (b : Bool) (w : Int) : Runs Tryz.prog 154 [.bool b, .int .i64 w] (.t (.int .i64 (if b then w else 0))) := by
  cases b
  · refine Runs.of_call ?_ rfl
    refine CallS.of_fn tabS_ok regS_ok Tryz.func154 rfl rfl ?_
    exact And.intro rfl rfl
  · refine Runs.of_call ?_ rfl
    refine CallS.of_fn tabS_ok regS_ok Tryz.func154 rfl rfl ?_
    exact And.intro rfl rfl

def wideP (w : Int) : Prop := 1 ≤ w ∧ w ≤ 128
instance (w : Int) : Decidable (wideP w) := inferInstanceAs (Decidable (_ ∧ _))
def memP (w : Int) : Prop := w = 8 ∨ w = 16 ∨ w = 32 ∨ w = 64
instance (w : Int) : Decidable (memP w) := inferInstanceAs (Decidable (_ ∨ _))

theorem bits128_runs (w : Int) : Runs Tryz.prog 155 [.int .i64 w] (.t (.bool (decide (wideP w)))) := by
  refine Runs.of_call ?_ rfl
  refine CallS.of_fn tabS_ok regS_ok Tryz.func155 rfl rfl ?_
  refine br_intro (fun c => ?_) (fun c => ?_)
  · exact And.intro (congrArg (fun b => some (T.bool b)) (decide_eq_decide.mpr ⟨fun h => ⟨dt c, h⟩, fun h => h.2⟩)) rfl
  · exact And.intro (bno fun h => df c h.1) rfl

theorem memory_runs (w : Int) : Runs Tryz.prog 64 [.int .i64 w] (.t (.bool (decide (memP w)))) := by
  refine Runs.of_call ?_ rfl
  refine CallS.of_fn tabS_ok regS_ok Tryz.func64 rfl rfl ?_
  refine br_intro (fun c => ?_) (fun c1 => ?_)
  · exact And.intro (byes (.inl (dt c))) rfl
  refine br_intro (fun c => ?_) (fun c2 => ?_)
  · exact And.intro (byes (.inr (.inl (dt c)))) rfl
  refine br_intro (fun c => ?_) (fun c3 => ?_)
  · exact And.intro (byes (.inr (.inr (.inl (dt c))))) rfl
  exact And.intro (congrArg (fun b => some (T.bool b)) (decide_eq_decide.mpr ⟨fun h => .inr (.inr (.inr h)), fun h => by
    rcases h with h | h | h | h
    · exact absurd h (df c1)
    · exact absurd h (df c2)
    · exact absurd h (df c3)
    · exact h⟩)) rfl

/-- A register's width; 0: there is none. -/
def regW (d : DescD) (f : FormD) (a b : Int) : Int :=
  match at? d.files a with
  | none => 0
  | some x => if x.fine then
      (if b < 0 then (if -1 - b < x.count then x.width else 0)
       else match at? f.args b with
        | none => 0
        | some g => match at? d.classes g.cls with
          | none => 0
          | some k => if k.kind = 1 ∧ k.file = a then x.width else 0)
      else 0

end Go.Proofs.YtnjmeadmkbkikaaGreatDoor
