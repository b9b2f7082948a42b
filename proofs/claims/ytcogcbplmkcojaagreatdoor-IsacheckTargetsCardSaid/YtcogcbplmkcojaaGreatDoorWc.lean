/-
  Registers: their widths, as the program and the document reckon them (walks).
-/
import Derived.Test.YtcogcbplmkcojaaGreatDoorWb
namespace Go.Proofs.YtcogcbplmkcojaaGreatDoor
open Go.IntWalk
set_option maxRecDepth 100000
set_option linter.unusedVariables false
set_option linter.unusedSimpArgs false
def Iz : Ord := (.op 0 [] (.op 1 [] (.op 2 [1, 0] (.op 3 [1, 0] (.op 4 [1, 0] (.op 5 [] (.op 6 [] (.op 7 [] (.op 8 [] (.op 9 [] (.op 10 [9, 8] (.op 11 [9, 8] (.op 12 [] (.op 13 [] (.op 14 [] (.op 15 [14, 13, 12, 11, 10, 9, 8] (.op 16 [14, 13, 12, 11, 10, 9, 8] (.op 17 [14, 13, 12, 11, 10, 9, 8] (.op 18 [14, 13, 12, 11, 10, 9, 8] (.op 19 [] (.op 20 [] (.op 21 [] .nil))))))))))))))))))))))
def Fq : Ord := (.op 0 [] (.op 1 [] (.op 2 [] (.op 3 [2, 1, 0] (.op 4 [2, 1, 0] (.op 5 [4, 3, 2, 1, 0] (.op 6 [4, 3, 2, 1, 0] (.op 7 [2, 1, 0] (.op 8 [2, 1, 0] (.op 9 [2, 1, 0] (.op 10 [] (.op 11 [] (.op 12 [11, 10, 9, 8, 7, 6, 5, 4, 3, 2, 1, 0] (.op 13 [] .nil))))))))))))))
def bq : Ord := (.op 0 [] (.op 1 [] (.op 3 [1, 0] (.op 4 [1, 0] (.op 5 [1, 0] (.op 2 [5, 4, 3] (.op 6 [] .nil)))))))
def sN : Ord := (.op 0 [] (.op 1 [] (.op 3 [1, 0] (.op 4 [1, 0] (.op 2 [4, 3] (.op 5 [] (.op 6 [] .nil)))))))
def Fv : Ord := (.op 0 [] (.op 1 [] (.op 2 [1, 0] (.op 3 [1, 0] (.op 4 [1, 0] (.op 5 [] (.op 6 [] (.op 7 [] (.op 8 [] (.op 9 [8, 7] (.op 10 [8, 7] (.op 11 [] (.op 12 [] (.op 13 [] (.op 14 [13, 12, 11, 10, 9, 8, 7] (.op 15 [13, 12, 11, 10, 9, 8, 7] (.op 16 [13, 12, 11, 10, 9, 8, 7] (.op 17 [13, 12, 11, 10, 9, 8, 7] (.op 18 [] (.op 19 [] (.op 20 [] .nil)))))))))))))))))))))
def yb : Ord := (.op 0 [] (.op 1 [] (.op 2 [] (.op 3 [] (.op 22 [3, 2, 1, 0] (.op 23 [3, 2, 1, 0] (.op 4 [23, 22] (.op 5 [23, 22] (.op 6 [23, 22] (.op 7 [23, 22] (.op 8 [23, 22] (.op 9 [23, 22] (.op 10 [9, 8, 7, 23, 22] (.op 11 [9, 8, 7, 23, 22] (.op 12 [11, 10, 9, 8, 7, 23, 22] (.op 13 [11, 10, 9, 8, 7, 23, 22] (.op 14 [9, 8, 7, 23, 22] (.op 15 [9, 8, 7, 23, 22] (.op 16 [9, 8, 7, 23, 22] (.op 17 [23, 22] (.op 18 [23, 22] (.op 19 [23, 22] (.op 20 [23, 22] (.op 21 [23, 22] (.op 24 [] (.op 25 [] .nil))))))))))))))))))))))))))
def Fu : Ord := (.op 0 [] (.op 1 [] (.op 8 [1, 0] (.op 9 [1, 0] (.op 2 [9, 8] (.op 3 [9, 8] (.op 4 [9, 8] (.op 5 [9, 8] (.op 6 [9, 8] (.op 7 [9, 8] (.op 10 [] (.op 11 [] .nil))))))))))))
theorem gh {n : Int} (h : -9223372036854775808 ≤ n) (h2 : n ≤ 9223372036854775807) : IntKind.i64.wrap n = n := by rw [IntKind.wrap_i64]; omega
theorem bW {α : Type} {f : α → T} {l : List α} {i : Nat} {a : α} (h : l[i]? = some a) : (l.map f)[i]? = some (f a) := by rw [List.getElem?_map, h]; rfl
theorem pU {b : Bool} (h : (!b) = true) : b = false := by simpa using h
theorem gn {i : Int} {b : Bool} (hb : b = true) (h : 0 ≤ i) : (b && decide (0 ≤ i)) = true := by rw [hb, decide_eq_true h]; rfl
theorem oh {a : Int} {α : Type} {f : α → T} {l : List α} (c : decide (0 ≤ a ∧ a < ((l.map f).length : Int)) = true) : 0 ≤ a ∧ a < (l.length : Int) := by simpa using of_decide_eq_true c
theorem lZ {a : Int} {α : Type} {f : α → T} {l : List α} (c : decide (0 ≤ a ∧ a < ((l.map f).length : Int)) = false) : ¬ (0 ≤ a ∧ a < (l.length : Int)) := by simpa using of_decide_eq_false c
theorem aD {a b : Int} (h : a = b) : some (T.int .i64 a) = some (T.int .i64 b) := by rw [h]
theorem τ.ok.file {d : τ} (h : d.ok) {x : h_} (hx : x ∈ d.files) : x.ok := by unfold τ.ok at h; exact h.2.2.2.1 x hx
theorem sh (d : τ) (f : aj) (op w a b : Int) (ks : List T) (hb : aK b) : φ Tryz.prog 72 [aq d, ab f, .agg [.int .i64 op, .int .i64 w, .int .i64 a, .int .i64 b, .κ 5 ks]] (.t (.int .i64 (ig d f a b))) := by
 refine φ.Λ ?_ rfl
 refine γ.ο ζ η Tryz.func72 rfl rfl ?_
 refine γ.pure (bQ a (d.files.map dz).length) rfl ?_
 refine U (fun c => ?_) (fun c => ?_)
 ·have hc := lZ (pU c)
  exact And.intro (aD (by rw [ig, iD hc])) rfl
 ·have hc := oh (nf c)
  obtain ⟨x, hx, hm, hg⟩ := cN hc
  refine ε (gn rfl hc.1) ?_
  refine ξ (bW hg) ?_
  refine γ.pure (tw x) rfl ?_
  refine U (fun c1 => ?_) (fun c1 => ?_)
  ·exact And.intro (aD (by rw [ig, hx]; simp only; rw [if_neg (df (pU c1))])) rfl
  have F4 := dt (nf c1)
  refine ε (gn rfl hc.1) ?_
  refine ξ (bW hg) ?_
  refine U (fun c2 => ?_) (fun c2 => ?_)
  ·have c2 : b < 0 := dt c2
   have tn := hb.1
   refine δ (n := -1 - b) (gh (by omega) (by omega)) ?_
   refine γ.pure (bQ _ _) rfl ?_
   refine U (fun c3 => ?_) (fun c3 => ?_)
   ·have c3 := df (pU c3)
    exact And.intro (aD (by rw [ig, hx]; simp only; rw [if_pos F4, if_pos c2, if_neg (by omega)])) rfl
   ·have c3 := dt (nf c3)
    exact And.intro (aD (by rw [ig, hx]; simp only; rw [if_pos F4, if_pos c2, if_pos (by omega)])) rfl
  ·have c2 : ¬ b < 0 := df c2
   refine υ Iz (by decide +kernel) ?_
   refine γ.pure (bQ _ _) rfl ?_
   refine And.intro (fun j hj => by cases hj) ?_
   refine U (fun c3 => ?_) (fun c3 => ?_)
   ·have qO := lZ (pU c3)
    refine And.intro (fun j hj => by cases hj) ?_
    exact And.intro (aD (by rw [ig, hx]; simp only; rw [if_pos F4, if_neg c2, iD qO])) rfl
   have h3 := oh (nf c3)
   obtain ⟨g, g1, g2, g3⟩ := cN h3
   refine ε (gn rfl h3.1) ?_
   refine ξ (bW g3) ?_
   refine γ.pure (bQ _ _) rfl ?_
   refine And.intro (fun j hj => by cases hj) ?_
   refine U (fun c4 => ?_) (fun c4 => ?_)
   ·have qO := lZ (pU c4)
    exact And.intro (aD (by rw [ig, hx]; simp only; rw [if_pos F4, if_neg c2, g1]; simp only; rw [iD qO])) rfl
   have h4 := oh (nf c4)
   obtain ⟨k, k1, k2, k3⟩ := cN h4
   refine υ Fq (by decide +kernel) ?_
   refine ε (gn rfl h3.1) ?_
   refine ξ (bW g3) ?_
   refine ε (gn rfl h4.1) ?_
   refine ξ (bW k3) ?_
   refine And.intro (fun j hj => by cases hj) ?_
   have e : ig d f a b = if k.kind = 1 ∧ k.file = a then x.width else 0 := by rw [ig, hx]; simp only; rw [if_pos F4, if_neg c2, g1]; simp only; rw [k1]
   rw [e]
   refine U (fun c5 => ?_) (fun c5 => ?_)
   ·exact And.intro (aD (if_neg fun h => (by simpa using c5 : ¬ k.kind = 1) h.1).symm) rfl
   refine U (fun c6 => ?_) (fun c6 => ?_)
   ·exact And.intro (aD (if_neg fun h => (by simpa using c6 : ¬ k.file = a) h.2).symm) rfl
   ·exact And.intro (aD (if_pos ⟨by simpa using c5, by simpa using c6⟩).symm) rfl
theorem C7 (d : τ) (f : aj) (a b : Int) : 0 ≤ ig d f a b ∧ ig d f a b ≤ 128 := by
 unfold ig
 split
 ·omega
 ·rename_i x _
  by_cases hx : x.mH
  ·rw [if_pos hx]
   have h1 := hx.2.2.1
   have h2 := hx.2.2.2.1
   repeat' split
   all_goals omega
  ·rw [if_neg hx]; omega
end Go.Proofs.YtcogcbplmkcojaaGreatDoor
