/-
  Registers: their widths, as the program and the document reckon them.
-/
import Derived.Test.YtcogcbplmkcojaaGreatDoorWa
namespace Go.Proofs.YtcogcbplmkcojaaGreatDoor
open Go.IntWalk
set_option maxRecDepth 100000
set_option linter.unusedVariables false
set_option linter.unusedSimpArgs false
noncomputable def nZ : sc := Ip Tryz.prog tab
noncomputable def C8 : sc := Ip Tryz.prog xg
theorem η : zg Tryz.prog xg C8 := K6 ζ mixed
theorem υ {ops : Array Oper} {s : St} {K : St → Prop} (σ : Ord) (h : dv ops (vW ops) σ [] [] = true) (k : uv xg (γ Tryz.prog) ops (fun _ => []) σ s K) : C8 ops s K := ⟨_, σ, h, k⟩
theorem Oa {p : Prop} [Decidable p] (b : Bool) (h : b = true ↔ p) : some (T.bool b) = some (T.bool (decide p)) := by
 congr 2
 by_cases hp : p
 ·rw [h.2 hp]; simp [hp]
 ·have : b = false := by cases b <;> simp_all
  rw [this]; simp [hp]
theorem qc {p : Prop} [Decidable p] (h : ¬ p) : some (T.bool false) = some (T.bool (decide p)) := Oa false (iff_of_false (by simp) h)
theorem JL {p : Prop} [Decidable p] (h : p) : some (T.bool true) = some (T.bool (decide p)) := Oa true (iff_of_true rfl h)
theorem nb {b : Bool} (h : (!b) = true) : b = false := by simpa using h
theorem nf {b : Bool} (h : (!b) = false) : b = true := by simpa using h
theorem dt {p : Prop} [Decidable p] (h : decide p = true) : p := of_decide_eq_true h
theorem df {p : Prop} [Decidable p] (h : decide p = false) : ¬ p := of_decide_eq_false h
def cV {α : Type} (l : List α) (n : Int) : Option α := if 0 ≤ n then l[n.toNat]? else none
theorem cN {α : Type} {l : List α} {n : Int} (h : 0 ≤ n ∧ n < l.length) : ∃ a, cV l n = some a ∧ a ∈ l ∧ l[n.toNat]? = some a := by
 have hn : n.toNat < l.length := by omega
 refine ⟨l[n.toNat], ?_, List.getElem_mem hn, List.getElem?_eq_getElem hn⟩
 rw [cV, if_pos h.1, List.getElem?_eq_getElem hn]
theorem iD {α : Type} {l : List α} {n : Int} (h : ¬ (0 ≤ n ∧ n < l.length)) : cV l n = none := by
 unfold cV
 split
 ·exact List.getElem?_eq_none (by omega)
 ·rfl
def h_.mH (x : h_) : Prop := 1 ≤ x.count ∧ x.count ≤ 64 ∧ 1 ≤ x.width ∧ x.width ≤ 64 ∧ -1 ≤ x.zero ∧ x.zero < x.count
instance (x : h_) : Decidable x.mH := inferInstanceAs (Decidable (_ ∧ _))
theorem bQ (n m : Int) : φ Tryz.prog 45 [.int .i64 n, .int .i64 m] (.t (.bool (decide (0 ≤ n ∧ n < m)))) := by
 refine φ.Λ ?_ rfl
 refine γ.ο ζ η Tryz.func45 rfl rfl ?_
 refine U (fun c => ?_) (fun c => ?_)
 ·exact And.intro (congrArg (fun b => some (T.bool b)) (decide_eq_decide.mpr ⟨fun h => ⟨dt c, h⟩, fun h => h.2⟩)) rfl
 ·exact And.intro (qc fun h => df c h.1) rfl
theorem rB (n m : Int) : φ Tryz.prog 98 [.int .i64 n, .int .i64 m] (.t (.bool (decide (0 ≤ n ∧ n < m)))) := by
 refine φ.Λ ?_ rfl
 refine γ.ο ζ η Tryz.func98 rfl rfl ?_
 refine U (fun c => ?_) (fun c => ?_)
 ·exact And.intro (congrArg (fun b => some (T.bool b)) (decide_eq_decide.mpr ⟨fun h => ⟨dt c, h⟩, fun h => h.2⟩)) rfl
 ·exact And.intro (qc fun h => df c h.1) rfl
theorem tw (x : h_) : φ Tryz.prog 63 [dz x] (.t (.bool (decide x.mH))) := by
 refine φ.Λ ?_ rfl
 refine γ.ο ζ η Tryz.func63 rfl rfl ?_
 refine U (fun c1 => ?_) (fun c => ?_)
 ·refine U (fun c2 => ?_) (fun c => ?_)
  ·refine U (fun c3 => ?_) (fun c => ?_)
   ·refine U (fun c4 => ?_) (fun c => ?_)
    ·refine U (fun c5 => ?_) (fun c => ?_)
     ·exact And.intro (congrArg (fun b => some (T.bool b)) (decide_eq_decide.mpr ⟨fun h => ⟨dt c1, dt c2, dt c3, dt c4, dt c5, h⟩, fun h => h.2.2.2.2.2⟩)) rfl
     ·exact And.intro (qc fun h => df c h.2.2.2.2.1) rfl
    ·exact And.intro (qc fun h => df c h.2.2.2.1) rfl
   ·exact And.intro (qc fun h => df c h.2.2.1) rfl
  ·exact And.intro (qc fun h => df c h.2.1) rfl
 ·exact And.intro (qc fun h => df c h.1) rfl
theorem BN (x : h_) : φ Tryz.prog 144 [dz x] (.t (.bool (decide x.mH))) := by
 refine φ.Λ ?_ rfl
 refine γ.ο ζ η Tryz.func144 rfl rfl ?_
 refine U (fun c1 => ?_) (fun c => ?_)
 ·refine U (fun c2 => ?_) (fun c => ?_)
  ·refine U (fun c3 => ?_) (fun c => ?_)
   ·refine U (fun c4 => ?_) (fun c => ?_)
    ·refine U (fun c5 => ?_) (fun c => ?_)
     ·exact And.intro (congrArg (fun b => some (T.bool b)) (decide_eq_decide.mpr ⟨fun h => ⟨dt c1, dt c2, dt c3, dt c4, dt c5, h⟩, fun h => h.2.2.2.2.2⟩)) rfl
     ·exact And.intro (qc fun h => df c h.2.2.2.2.1) rfl
    ·exact And.intro (qc fun h => df c h.2.2.2.1) rfl
   ·exact And.intro (qc fun h => df c h.2.2.1) rfl
  ·exact And.intro (qc fun h => df c h.2.1) rfl
 ·exact And.intro (qc fun h => df c h.1) rfl
theorem a7 (b : Bool) (w : Int) : φ Tryz.prog 168 [.bool b, .int .i64 w] (.t (.int .i64 (if b then w else 0))) := by
 cases b
 ·refine φ.Λ ?_ rfl
  refine γ.ο ζ η Tryz.func168 rfl rfl ?_
  exact And.intro rfl rfl
 ·refine φ.Λ ?_ rfl
  refine γ.ο ζ η Tryz.func168 rfl rfl ?_
  exact And.intro rfl rfl
def j0 (w : Int) : Prop := 1 ≤ w ∧ w ≤ 128
instance (w : Int) : Decidable (j0 w) := inferInstanceAs (Decidable (_ ∧ _))
def oV (w : Int) : Prop := w = 8 ∨ w = 16 ∨ w = 32 ∨ w = 64
instance (w : Int) : Decidable (oV w) := inferInstanceAs (Decidable (_ ∨ _))
theorem lX (w : Int) : φ Tryz.prog 169 [.int .i64 w] (.t (.bool (decide (j0 w)))) := by
 refine φ.Λ ?_ rfl
 refine γ.ο ζ η Tryz.func169 rfl rfl ?_
 refine U (fun c => ?_) (fun c => ?_)
 ·exact And.intro (congrArg (fun b => some (T.bool b)) (decide_eq_decide.mpr ⟨fun h => ⟨dt c, h⟩, fun h => h.2⟩)) rfl
 ·exact And.intro (qc fun h => df c h.1) rfl
theorem uy (w : Int) : φ Tryz.prog 73 [.int .i64 w] (.t (.bool (decide (oV w)))) := by
 refine φ.Λ ?_ rfl
 refine γ.ο ζ η Tryz.func73 rfl rfl ?_
 refine U (fun c => ?_) (fun c1 => ?_)
 ·exact And.intro (JL (.inl (dt c))) rfl
 refine U (fun c => ?_) (fun c2 => ?_)
 ·exact And.intro (JL (.inr (.inl (dt c)))) rfl
 refine U (fun c => ?_) (fun c3 => ?_)
 ·exact And.intro (JL (.inr (.inr (.inl (dt c))))) rfl
 exact And.intro (congrArg (fun b => some (T.bool b)) (decide_eq_decide.mpr ⟨fun h => .inr (.inr (.inr h)), fun h => by
  rcases h with h | h | h | h
  ·exact absurd h (df c1)
  ·exact absurd h (df c2)
  ·exact absurd h (df c3)
  ·exact h⟩)) rfl
def ig (d : τ) (f : aj) (a b : Int) : Int :=
 match cV d.files a with
 | none => 0
 | some x => if x.mH then
  (if b < 0 then (if -1 - b < x.count then x.width else 0)
   else match cV f.args b with
    | none => 0
    | some g => match cV d.classes g.bn with
     | none => 0
     | some k => if k.kind = 1 ∧ k.file = a then x.width else 0)
  else 0
end Go.Proofs.YtcogcbplmkcojaaGreatDoor
