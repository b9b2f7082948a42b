/-
  Widths of terms: what they are, step by step, and the program's walk.
-/
import Derived.Test.YtcogcbplmkcojaaGreatDoorWc
namespace Go.Proofs.YtcogcbplmkcojaaGreatDoor
open Go.IntWalk
set_option maxRecDepth 100000
set_option linter.unusedVariables false
set_option linter.unusedSimpArgs false
def eu (op : Int) : Int :=
 if op = 20 ∨ op = 21 ∨ op = 22 ∨ op = 23 ∨ op = 24 ∨ op = 25 then 0
 else if op = 18 ∨ op = 19 ∨ op = 26 ∨ op = 28 ∨ op = 29 ∨ op = 30 then 1
 else if op = 27 then 3
 else if 1 ≤ op ∧ op ≤ 17 then 2 else -1
theorem a_ (op : Int) : φ Tryz.prog 167 [.int .i64 op] (.t (.int .i64 (eu op))) := by
 by_cases h : 18 ≤ op ∧ op ≤ 30
 ·have hc : op = 18 ∨ op = 19 ∨ op = 20 ∨ op = 21 ∨ op = 22 ∨ op = 23 ∨ op = 24 ∨ op = 25 ∨ op = 26 ∨ op = 27 ∨ op = 28 ∨ op = 29 ∨ op = 30 := by omega
  rcases hc with rfl | rfl | rfl | rfl | rfl | rfl | rfl | rfl | rfl | rfl | rfl | rfl | rfl <;>
  ·refine φ.Λ ?_ rfl
   refine γ.ο ζ η Tryz.func167 rfl rfl ?_
   exact And.intro rfl rfl
 ·have SH : (op == 20) = false := by simp; omega
  have SG : (op == 21) = false := by simp; omega
  have SF : (op == 22) = false := by simp; omega
  have SE : (op == 23) = false := by simp; omega
  have SD : (op == 24) = false := by simp; omega
  have SC : (op == 25) = false := by simp; omega
  have SJ : (op == 18) = false := by simp; omega
  have SI : (op == 19) = false := by simp; omega
  have SB : (op == 26) = false := by simp; omega
  have Sz : (op == 27) = false := by simp; omega
  have Sy : (op == 28) = false := by simp; omega
  have Sx : (op == 29) = false := by simp; omega
  have Sw : (op == 30) = false := by simp; omega
  have ek : eu op = if 1 ≤ op ∧ op ≤ 17 then 2 else -1 := by unfold eu; rw [if_neg (by omega), if_neg (by omega), if_neg (by omega)]
  refine φ.Λ ?_ rfl
  refine γ.ο ζ η Tryz.func167 rfl rfl ?_
  refine U (fun c => absurd (SH.symm.trans c) (by decide)) (fun TV => ?_)
  refine U (fun c => absurd (SG.symm.trans c) (by decide)) (fun TU => ?_)
  refine U (fun c => absurd (SF.symm.trans c) (by decide)) (fun TT => ?_)
  refine U (fun c => absurd (SE.symm.trans c) (by decide)) (fun TS => ?_)
  refine U (fun c => absurd (SD.symm.trans c) (by decide)) (fun TR => ?_)
  refine U (fun c => absurd (SC.symm.trans c) (by decide)) (fun TQ => ?_)
  refine U (fun c => absurd (SJ.symm.trans c) (by decide)) (fun TX => ?_)
  refine U (fun c => absurd (SI.symm.trans c) (by decide)) (fun TW => ?_)
  refine U (fun c => absurd (SB.symm.trans c) (by decide)) (fun TP => ?_)
  refine U (fun c => absurd (Sy.symm.trans c) (by decide)) (fun TN => ?_)
  refine U (fun c => absurd (Sx.symm.trans c) (by decide)) (fun TM => ?_)
  refine U (fun c => absurd (Sw.symm.trans c) (by decide)) (fun TL => ?_)
  refine U (fun c => absurd (Sz.symm.trans c) (by decide)) (fun TO => ?_)
  rw [ek]
  refine U (fun c1 => ?_) (fun c1 => ?_)
  ·refine U (fun c2 => ?_) (fun c2 => ?_)
   ·exact And.intro (aD (if_pos ⟨dt c1, dt c2⟩).symm) rfl
   ·exact And.intro (aD (if_neg fun h => df c2 h.2).symm) rfl
  ·exact And.intro (aD (if_neg fun h => df c1 h.1).symm) rfl
def kM (d : τ) (f : aj) (op w a b : Int) : Int :=
 if op = 20 then (if j0 w then w else 0)
 else if op = 21 then ig d f a b
 else if op = 22 then (match cV f.args a with
  | none => 0
  | some g => match cV d.classes g.bn with
   | none => 0
   | some k => if j0 w ∧ k.kind ≠ 1 then w else 0)
 else if op = 23 ∨ op = 24 then 64
 else if op = 25 then (if 0 ≤ a ∧ a < d.flags.length then 1 else 0)
 else 0
theorem Lv {op : Int} (h : eu op = 0) : op = 20 ∨ op = 21 ∨ op = 22 ∨ op = 23 ∨ op = 24 ∨ op = 25 := by
 unfold eu at h
 repeat' split at h
 all_goals omega
theorem KW {d : τ} {f : aj} {op w a b : Int} (h : eu op ≠ 0) : kM d f op w a b = 0 := by
 unfold eu at h
 have h : ¬ (op = 20 ∨ op = 21 ∨ op = 22 ∨ op = 23 ∨ op = 24 ∨ op = 25) := fun q => h (if_pos q)
 unfold kM
 rw [if_neg (by omega), if_neg (by omega), if_neg (by omega), if_neg (by omega), if_neg (by omega)]
theorem KC {a b : Int} (h : a ≠ b) : (a != b) = true := by simpa using h
theorem L5 (d : τ) (f : aj) (op w a b : Int) (hb : aK b) : φ Tryz.prog 126 [aq d, ab f, .agg [.int .i64 op, .int .i64 w, .int .i64 a, .int .i64 b, .κ 5 []]] (.t (.int .i64 (kM d f op w a b))) := by
 by_cases hk : eu op = 0
 ·rcases Lv hk with rfl | rfl | rfl | rfl | rfl | rfl
  ·have e : kM d f 20 w a b = if j0 w then w else 0 := rfl
   rw [e]
   refine φ.Λ ?_ rfl
   refine γ.ο ζ η Tryz.func126 rfl rfl ?_
   refine υ bq (by decide +kernel) ?_
   refine γ.pure (show φ _ _ _ (.t (.int .i64 0)) from a_ 20) rfl ?_
   refine And.intro (fun j hj => by first | (cases hj; done) | exact ψ.append _ _ _) ?_
   refine bd 1 ?_
   refine υ sN (by decide +kernel) ?_
   refine γ.pure (lX w) rfl ?_
   refine And.intro (fun j hj => by first | (cases hj; done) | exact ψ.append _ _ _) ?_
   refine γ.pure (a7 _ _) rfl ?_
   refine And.intro (fun j hj => by first | (cases hj; done) | exact ψ.append _ _ _) ?_
   refine And.intro (fun j hj => by first | (cases hj; done) | exact ψ.append _ _ _) ?_
   exact And.intro (aD (by simp)) rfl
  ·have e : kM d f 21 w a b = ig d f a b := rfl
   rw [e]
   refine φ.Λ ?_ rfl
   refine γ.ο ζ η Tryz.func126 rfl rfl ?_
   refine υ bq (by decide +kernel) ?_
   refine γ.pure (show φ _ _ _ (.t (.int .i64 0)) from a_ 21) rfl ?_
   refine And.intro (fun j hj => by first | (cases hj; done) | exact ψ.append _ _ _) ?_
   refine bd 1 ?_
   refine γ.b9 (sh d f 21 w a b [] hb) rfl ⟨.refl _, .refl _, .refl _, trivial⟩ ?_
   exact And.intro rfl rfl
  ·have e : kM d f 22 w a b = (match cV f.args a with
    | none => 0
    | some g => match cV d.classes g.bn with
     | none => 0
     | some k => if j0 w ∧ k.kind ≠ 1 then w else 0) := rfl
   rw [e]
   refine φ.Λ ?_ rfl
   refine γ.ο ζ η Tryz.func126 rfl rfl ?_
   refine υ bq (by decide +kernel) ?_
   refine γ.pure (show φ _ _ _ (.t (.int .i64 0)) from a_ 22) rfl ?_
   refine And.intro (fun j hj => by first | (cases hj; done) | exact ψ.append _ _ _) ?_
   refine bd 1 ?_
   refine υ Fv (by decide +kernel) ?_
   refine γ.pure (bQ _ _) rfl ?_
   refine And.intro (fun j hj => by first | (cases hj; done) | exact ψ.append _ _ _) ?_
   refine U (fun c1 => ?_) (fun c1 => ?_)
   ·have h1 := oh c1
    obtain ⟨g, g1, g2, g3⟩ := cN h1
    rw [g1]
    refine ε (gn rfl h1.1) ?_
    refine ξ (bW g3) ?_
    refine γ.pure (bQ _ _) rfl ?_
    refine And.intro (fun j hj => by first | (cases hj; done) | exact ψ.append _ _ _) ?_
    refine And.intro (fun j hj => by first | (cases hj; done) | exact ψ.append _ _ _) ?_
    refine υ yb (by decide +kernel) ?_
    refine U (fun c2 => ?_) (fun c2 => ?_)
    ·have h2 := oh c2
     obtain ⟨k, k1, k2, k3⟩ := cN h2
     refine γ.pure (lX w) rfl ?_
     refine And.intro (fun j hj => by first | (cases hj; done) | exact ψ.append _ _ _) ?_
     refine U (fun c3 => ?_) (fun c3 => ?_)
     ·refine ε (gn rfl h1.1) ?_
      refine ξ (bW g3) ?_
      refine ε (gn rfl h2.1) ?_
      refine ξ (bW k3) ?_
      refine γ.pure (a7 _ _) rfl ?_
      refine And.intro (fun j hj => by first | (cases hj; done) | exact ψ.append _ _ _) ?_
      refine And.intro (fun j hj => by first | (cases hj; done) | exact ψ.append _ _ _) ?_
      exact And.intro (aD (by simp only [k1]; have c3 : j0 w := by simpa using c3
                              simp [c3])) rfl
     ·refine γ.pure (a7 _ _) rfl ?_
      refine And.intro (fun j hj => by first | (cases hj; done) | exact ψ.append _ _ _) ?_
      refine And.intro (fun j hj => by first | (cases hj; done) | exact ψ.append _ _ _) ?_
      exact And.intro (aD (by simp only [k1]; have c3 : ¬ j0 w := by simpa using c3
                              simp [c3])) rfl
    ·have h2 := iD (lZ c2)
     refine And.intro (fun j hj => by first | (cases hj; done) | exact ψ.append _ _ _) ?_
     refine γ.pure (a7 _ _) rfl ?_
     refine And.intro (fun j hj => by first | (cases hj; done) | exact ψ.append _ _ _) ?_
     refine And.intro (fun j hj => by first | (cases hj; done) | exact ψ.append _ _ _) ?_
     exact And.intro (aD (by simp only [h2]; simp)) rfl
   ·have h1 := iD (lZ c1)
    refine And.intro (fun j hj => by first | (cases hj; done) | exact ψ.append _ _ _) ?_
    refine And.intro (fun j hj => by first | (cases hj; done) | exact ψ.append _ _ _) ?_
    refine υ yb (by decide +kernel) ?_
    refine And.intro (fun j hj => by first | (cases hj; done) | exact ψ.append _ _ _) ?_
    refine γ.pure (a7 _ _) rfl ?_
    refine And.intro (fun j hj => by first | (cases hj; done) | exact ψ.append _ _ _) ?_
    refine And.intro (fun j hj => by first | (cases hj; done) | exact ψ.append _ _ _) ?_
    exact And.intro (aD (by rw [h1]; simp)) rfl
  ·have e : kM d f 23 w a b = 64 := rfl
   rw [e]
   refine φ.Λ ?_ rfl
   refine γ.ο ζ η Tryz.func126 rfl rfl ?_
   refine υ bq (by decide +kernel) ?_
   refine γ.pure (show φ _ _ _ (.t (.int .i64 0)) from a_ 23) rfl ?_
   refine And.intro (fun j hj => by first | (cases hj; done) | exact ψ.append _ _ _) ?_
   refine bd 1 ?_
   exact And.intro rfl rfl
  ·have e : kM d f 24 w a b = 64 := rfl
   rw [e]
   refine φ.Λ ?_ rfl
   refine γ.ο ζ η Tryz.func126 rfl rfl ?_
   refine υ bq (by decide +kernel) ?_
   refine γ.pure (show φ _ _ _ (.t (.int .i64 0)) from a_ 24) rfl ?_
   refine And.intro (fun j hj => by first | (cases hj; done) | exact ψ.append _ _ _) ?_
   refine bd 1 ?_
   exact And.intro rfl rfl
  ·have e : kM d f 25 w a b = if 0 ≤ a ∧ a < d.flags.length then 1 else 0 := rfl
   rw [e]
   refine φ.Λ ?_ rfl
   refine γ.ο ζ η Tryz.func126 rfl rfl ?_
   refine υ bq (by decide +kernel) ?_
   refine γ.pure (show φ _ _ _ (.t (.int .i64 0)) from a_ 25) rfl ?_
   refine And.intro (fun j hj => by first | (cases hj; done) | exact ψ.append _ _ _) ?_
   refine bd 1 ?_
   refine γ.pure (bQ _ _) rfl ?_
   refine γ.pure (a7 _ _) rfl ?_
   exact And.intro (aD (by simp)) rfl
 ·rw [KW hk]
  refine φ.Λ ?_ rfl
  refine γ.ο ζ η Tryz.func126 rfl rfl ?_
  refine υ bq (by decide +kernel) ?_
  refine γ.pure (a_ op) rfl ?_
  refine And.intro (fun j hj => by first | (cases hj; done) | exact ψ.append _ _ _) ?_
  refine U (fun c => ?_) (fun c => absurd (c.symm.trans (KC hk)) (by decide))
  exact And.intro rfl rfl
end Go.Proofs.YtcogcbplmkcojaaGreatDoor
