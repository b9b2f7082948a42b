/-
  Widths of terms with kids: the program's walk.
-/
import Derived.Test.YtcogcbplmkcojaaGreatDoorWd
namespace Go.Proofs.YtcogcbplmkcojaaGreatDoor
open Go.IntWalk
set_option maxRecDepth 100000
set_option linter.unusedVariables false
set_option linter.unusedSimpArgs false
def fD (op w a b x : Int) : Int :=
 if x = 0 then 0
 else if op = 18 ∨ op = 19 then x
 else if op = 26 then (if oV w ∧ x = 64 then w else 0)
 else if op = 28 ∨ op = 29 then (if j0 w then w else 0)
 else if op = 30 then (if 0 ≤ b ∧ b ≤ a ∧ a < x then a - b + 1 else 0)
 else 0
def bJ (op x y : Int) : Int :=
 if x = 0 ∨ y = 0 then 0
 else if op = 7 ∨ op = 8 ∨ op = 9 then x
 else if op = 14 ∨ op = 15 ∨ op = 16 then (if x = y then 1 else 0)
 else if op = 17 then (if x + y ≤ 128 then x + y else 0)
 else if 1 ≤ op ∧ op ≤ 13 then (if x = y then x else 0)
 else 0
def oI (op x y z : Int) : Int :=
 if x = 0 ∨ y = 0 ∨ z = 0 then 0
 else if op = 27 then (if x = 1 ∧ y = z then y else 0)
 else 0
theorem Lu {op : Int} (h : eu op = 1) : op = 18 ∨ op = 19 ∨ op = 26 ∨ op = 28 ∨ op = 29 ∨ op = 30 := by
 unfold eu at h
 repeat' split at h
 all_goals omega
theorem Lt {op : Int} (h : eu op = 2) : op = 1 ∨ op = 2 ∨ op = 3 ∨ op = 4 ∨ op = 5 ∨ op = 6 ∨ op = 7 ∨ op = 8 ∨ op = 9 ∨ op = 10 ∨ op = 11 ∨ op = 12 ∨ op = 13 ∨ op = 14 ∨ op = 15 ∨ op = 16 ∨ op = 17 := by
 unfold eu at h
 repeat' split at h
 all_goals omega
theorem Ls {op : Int} (h : eu op = 3) : op = 27 := by
 unfold eu at h
 repeat' split at h
 all_goals omega
theorem IW (op : Int) : eu op ≤ 3 := by
 unfold eu
 repeat' split
 all_goals omega
theorem KV {op w a b x : Int} (h : eu op ≠ 1) : fD op w a b x = 0 := by
 unfold eu at h
 have h : ¬ (op = 18 ∨ op = 19 ∨ op = 26 ∨ op = 28 ∨ op = 29 ∨ op = 30) := fun q => h (by rw [if_neg (by omega), if_pos q])
 unfold fD
 rw [if_neg (c := op = 18 ∨ op = 19) (by omega), if_neg (c := op = 26) (by omega), if_neg (c := op = 28 ∨ op = 29) (by omega), if_neg (c := op = 30) (by omega)]
 split <;> rfl
theorem KU {op x y : Int} (h : eu op ≠ 2) : bJ op x y = 0 := by
 unfold eu at h
 have h : ¬ (1 ≤ op ∧ op ≤ 17) := fun q => h (by rw [if_neg (by omega), if_neg (by omega), if_neg (by omega), if_pos q])
 unfold bJ
 rw [if_neg (c := op = 7 ∨ op = 8 ∨ op = 9) (by omega), if_neg (c := op = 14 ∨ op = 15 ∨ op = 16) (by omega), if_neg (c := op = 17) (by omega), if_neg (c := 1 ≤ op ∧ op ≤ 13) (by omega)]
 split <;> rfl
theorem KT {op x y z : Int} (h : eu op ≠ 3) : oI op x y z = 0 := by
 have h : ¬ op = 27 := fun q => h (by rw [q]; rfl)
 unfold oI
 rw [if_neg h]
 split <;> rfl
theorem rh (d : τ) (f : aj) (op w a b : Int) (ks : List T) (hk : eu op ≠ (ks.length : Int)) : φ Tryz.prog 126 [aq d, ab f, .agg [.int .i64 op, .int .i64 w, .int .i64 a, .int .i64 b, .κ 5 ks]] (.t (.int .i64 0)) := by
 refine φ.Λ ?_ rfl
 refine γ.ο ζ η Tryz.func126 rfl rfl ?_
 refine υ bq (by decide +kernel) ?_
 refine γ.pure (a_ op) rfl ?_
 refine And.intro (fun j hj => by first | (cases hj; done) | exact ψ.append _ _ _) ?_
 refine U (fun c => ?_) (fun c => absurd (c.symm.trans (KC hk)) (by decide))
 exact And.intro rfl rfl
theorem EH (d : τ) (f : aj) (w a b : Int) (ha : aK a) (hb : aK b) {k0 : T} {x : Int} (dk : aW k0) (eD : 0 ≤ x ∧ x ≤ 128)
 (dC : φ Tryz.prog 126 [aq d, ab f, k0] (.t (.int .i64 x))) :
 φ Tryz.prog 126 [aq d, ab f, .agg [.int .i64 18, .int .i64 w, .int .i64 a, .int .i64 b, .κ 5 [k0]]] (.t (.int .i64 (fD 18 w a b x))) := by
 cases dk with | mk o0 w0 a0 b0 s0 _ _ _ _ _ _ =>
 have e : fD 18 w a b x = if x = 0 then 0 else x := by unfold fD; simp
 rw [e]
 refine φ.Λ ?_ rfl
 refine γ.ο ζ η Tryz.func126 rfl rfl ?_
 refine υ bq (by decide +kernel) ?_
 refine γ.pure (show φ _ _ _ (.t (.int .i64 1)) from a_ 18) rfl ?_
 refine And.intro (fun j hj => by first | (cases hj; done) | exact ψ.append _ _ _) ?_
 refine bd 2 ?_
 refine γ.b9 dC rfl ⟨.refl _, .refl _, .refl _, trivial⟩ ?_
 refine U (fun c => ?_) (fun c0 => ?_)
 ·have c : x = 0 := by simpa using c
  exact And.intro (aD (if_pos (by omega)).symm) rfl
 have c0 : ¬ x = 0 := by simpa using c0
 have cz : ¬ (x = 0) := by omega
 rw [if_neg cz]
 exact And.intro rfl rfl
theorem EG (d : τ) (f : aj) (w a b : Int) (ha : aK a) (hb : aK b) {k0 : T} {x : Int} (dk : aW k0) (eD : 0 ≤ x ∧ x ≤ 128)
 (dC : φ Tryz.prog 126 [aq d, ab f, k0] (.t (.int .i64 x))) :
 φ Tryz.prog 126 [aq d, ab f, .agg [.int .i64 19, .int .i64 w, .int .i64 a, .int .i64 b, .κ 5 [k0]]] (.t (.int .i64 (fD 19 w a b x))) := by
 cases dk with | mk o0 w0 a0 b0 s0 _ _ _ _ _ _ =>
 have e : fD 19 w a b x = if x = 0 then 0 else x := by unfold fD; simp
 rw [e]
 refine φ.Λ ?_ rfl
 refine γ.ο ζ η Tryz.func126 rfl rfl ?_
 refine υ bq (by decide +kernel) ?_
 refine γ.pure (show φ _ _ _ (.t (.int .i64 1)) from a_ 19) rfl ?_
 refine And.intro (fun j hj => by first | (cases hj; done) | exact ψ.append _ _ _) ?_
 refine bd 2 ?_
 refine γ.b9 dC rfl ⟨.refl _, .refl _, .refl _, trivial⟩ ?_
 refine U (fun c => ?_) (fun c0 => ?_)
 ·have c : x = 0 := by simpa using c
  exact And.intro (aD (if_pos (by omega)).symm) rfl
 have c0 : ¬ x = 0 := by simpa using c0
 have cz : ¬ (x = 0) := by omega
 rw [if_neg cz]
 exact And.intro rfl rfl
theorem EF (d : τ) (f : aj) (w a b : Int) (ha : aK a) (hb : aK b) {k0 : T} {x : Int} (dk : aW k0) (eD : 0 ≤ x ∧ x ≤ 128)
 (dC : φ Tryz.prog 126 [aq d, ab f, k0] (.t (.int .i64 x))) :
 φ Tryz.prog 126 [aq d, ab f, .agg [.int .i64 26, .int .i64 w, .int .i64 a, .int .i64 b, .κ 5 [k0]]] (.t (.int .i64 (fD 26 w a b x))) := by
 cases dk with | mk o0 w0 a0 b0 s0 _ _ _ _ _ _ =>
 have e : fD 26 w a b x = if x = 0 then 0 else (if oV w ∧ x = 64 then w else 0) := by unfold fD; simp
 rw [e]
 refine φ.Λ ?_ rfl
 refine γ.ο ζ η Tryz.func126 rfl rfl ?_
 refine υ bq (by decide +kernel) ?_
 refine γ.pure (show φ _ _ _ (.t (.int .i64 1)) from a_ 26) rfl ?_
 refine And.intro (fun j hj => by first | (cases hj; done) | exact ψ.append _ _ _) ?_
 refine bd 2 ?_
 refine γ.b9 dC rfl ⟨.refl _, .refl _, .refl _, trivial⟩ ?_
 refine U (fun c => ?_) (fun c0 => ?_)
 ·have c : x = 0 := by simpa using c
  exact And.intro (aD (if_pos (by omega)).symm) rfl
 have c0 : ¬ x = 0 := by simpa using c0
 have cz : ¬ (x = 0) := by omega
 rw [if_neg cz]
 refine υ Fu (by decide +kernel) ?_
 refine γ.pure (uy w) rfl ?_
 refine And.intro (fun j hj => by first | (cases hj; done) | exact ψ.append _ _ _) ?_
 refine U (fun c => ?_) (fun c => ?_)
 ·have c : oV w := by simpa using c
  refine γ.pure (a7 _ _) rfl ?_
  refine And.intro (fun j hj => by first | (cases hj; done) | exact ψ.append _ _ _) ?_
  refine And.intro (fun j hj => by first | (cases hj; done) | exact ψ.append _ _ _) ?_
  exact And.intro (aD (by simp [c])) rfl
 ·have c : ¬ oV w := by simpa using c
  refine γ.pure (a7 _ _) rfl ?_
  refine And.intro (fun j hj => by first | (cases hj; done) | exact ψ.append _ _ _) ?_
  refine And.intro (fun j hj => by first | (cases hj; done) | exact ψ.append _ _ _) ?_
  exact And.intro (aD (by simp [c])) rfl
theorem EE (d : τ) (f : aj) (w a b : Int) (ha : aK a) (hb : aK b) {k0 : T} {x : Int} (dk : aW k0) (eD : 0 ≤ x ∧ x ≤ 128)
 (dC : φ Tryz.prog 126 [aq d, ab f, k0] (.t (.int .i64 x))) :
 φ Tryz.prog 126 [aq d, ab f, .agg [.int .i64 28, .int .i64 w, .int .i64 a, .int .i64 b, .κ 5 [k0]]] (.t (.int .i64 (fD 28 w a b x))) := by
 cases dk with | mk o0 w0 a0 b0 s0 _ _ _ _ _ _ =>
 have e : fD 28 w a b x = if x = 0 then 0 else (if j0 w then w else 0) := by unfold fD; simp
 rw [e]
 refine φ.Λ ?_ rfl
 refine γ.ο ζ η Tryz.func126 rfl rfl ?_
 refine υ bq (by decide +kernel) ?_
 refine γ.pure (show φ _ _ _ (.t (.int .i64 1)) from a_ 28) rfl ?_
 refine And.intro (fun j hj => by first | (cases hj; done) | exact ψ.append _ _ _) ?_
 refine bd 2 ?_
 refine γ.b9 dC rfl ⟨.refl _, .refl _, .refl _, trivial⟩ ?_
 refine U (fun c => ?_) (fun c0 => ?_)
 ·have c : x = 0 := by simpa using c
  exact And.intro (aD (if_pos (by omega)).symm) rfl
 have c0 : ¬ x = 0 := by simpa using c0
 have cz : ¬ (x = 0) := by omega
 rw [if_neg cz]
 refine υ sN (by decide +kernel) ?_
 refine γ.pure (lX w) rfl ?_
 refine And.intro (fun j hj => by first | (cases hj; done) | exact ψ.append _ _ _) ?_
 refine γ.pure (a7 _ _) rfl ?_
 refine And.intro (fun j hj => by first | (cases hj; done) | exact ψ.append _ _ _) ?_
 refine And.intro (fun j hj => by first | (cases hj; done) | exact ψ.append _ _ _) ?_
 exact And.intro (aD (by simp)) rfl
theorem ED (d : τ) (f : aj) (w a b : Int) (ha : aK a) (hb : aK b) {k0 : T} {x : Int} (dk : aW k0) (eD : 0 ≤ x ∧ x ≤ 128)
 (dC : φ Tryz.prog 126 [aq d, ab f, k0] (.t (.int .i64 x))) :
 φ Tryz.prog 126 [aq d, ab f, .agg [.int .i64 29, .int .i64 w, .int .i64 a, .int .i64 b, .κ 5 [k0]]] (.t (.int .i64 (fD 29 w a b x))) := by
 cases dk with | mk o0 w0 a0 b0 s0 _ _ _ _ _ _ =>
 have e : fD 29 w a b x = if x = 0 then 0 else (if j0 w then w else 0) := by unfold fD; simp
 rw [e]
 refine φ.Λ ?_ rfl
 refine γ.ο ζ η Tryz.func126 rfl rfl ?_
 refine υ bq (by decide +kernel) ?_
 refine γ.pure (show φ _ _ _ (.t (.int .i64 1)) from a_ 29) rfl ?_
 refine And.intro (fun j hj => by first | (cases hj; done) | exact ψ.append _ _ _) ?_
 refine bd 2 ?_
 refine γ.b9 dC rfl ⟨.refl _, .refl _, .refl _, trivial⟩ ?_
 refine U (fun c => ?_) (fun c0 => ?_)
 ·have c : x = 0 := by simpa using c
  exact And.intro (aD (if_pos (by omega)).symm) rfl
 have c0 : ¬ x = 0 := by simpa using c0
 have cz : ¬ (x = 0) := by omega
 rw [if_neg cz]
 refine υ sN (by decide +kernel) ?_
 refine γ.pure (lX w) rfl ?_
 refine And.intro (fun j hj => by first | (cases hj; done) | exact ψ.append _ _ _) ?_
 refine γ.pure (a7 _ _) rfl ?_
 refine And.intro (fun j hj => by first | (cases hj; done) | exact ψ.append _ _ _) ?_
 refine And.intro (fun j hj => by first | (cases hj; done) | exact ψ.append _ _ _) ?_
 exact And.intro (aD (by simp)) rfl
theorem EC (d : τ) (f : aj) (w a b : Int) (ha : aK a) (hb : aK b) {k0 : T} {x : Int} (dk : aW k0) (eD : 0 ≤ x ∧ x ≤ 128)
 (dC : φ Tryz.prog 126 [aq d, ab f, k0] (.t (.int .i64 x))) :
 φ Tryz.prog 126 [aq d, ab f, .agg [.int .i64 30, .int .i64 w, .int .i64 a, .int .i64 b, .κ 5 [k0]]] (.t (.int .i64 (fD 30 w a b x))) := by
 cases dk with | mk o0 w0 a0 b0 s0 _ _ _ _ _ _ =>
 have e : fD 30 w a b x = if x = 0 then 0 else (if 0 ≤ b ∧ b ≤ a ∧ a < x then a - b + 1 else 0) := by unfold fD; simp
 rw [e]
 refine φ.Λ ?_ rfl
 refine γ.ο ζ η Tryz.func126 rfl rfl ?_
 refine υ bq (by decide +kernel) ?_
 refine γ.pure (show φ _ _ _ (.t (.int .i64 1)) from a_ 30) rfl ?_
 refine And.intro (fun j hj => by first | (cases hj; done) | exact ψ.append _ _ _) ?_
 refine bd 2 ?_
 refine γ.b9 dC rfl ⟨.refl _, .refl _, .refl _, trivial⟩ ?_
 refine U (fun c => ?_) (fun c0 => ?_)
 ·have c : x = 0 := by simpa using c
  exact And.intro (aD (if_pos (by omega)).symm) rfl
 have c0 : ¬ x = 0 := by simpa using c0
 have cz : ¬ (x = 0) := by omega
 rw [if_neg cz]
 refine U (fun q1 => ?_) (fun q1 => ?_)
 ·have q1 : 0 ≤ b := by simpa using q1
  refine U (fun q2 => ?_) (fun q2 => ?_)
  ·have q2 : b ≤ a := by simpa using q2
   by_cases q3 : a < x
   ·refine δ (gh (n := a - b) (by omega) (by omega)) ?_
    refine δ (gh (n := a - b + 1) (by omega) (by omega)) ?_
    refine γ.pure (a7 _ _) rfl ?_
    exact And.intro (aD (by simp [q1, q2, q3])) rfl
   ·obtain ⟨g, hg⟩ : ∃ g, IntKind.i64.wrap (a - b) = g := ⟨_, rfl⟩
    obtain ⟨g2, kg⟩ : ∃ g2, IntKind.i64.wrap (g + 1) = g2 := ⟨_, rfl⟩
    refine δ hg ?_
    refine δ kg ?_
    refine γ.pure (a7 _ _) rfl ?_
    exact And.intro (aD (by simp [q3])) rfl
  ·have q2 : ¬ b ≤ a := by simpa using q2
   obtain ⟨g, hg⟩ : ∃ g, IntKind.i64.wrap (a - b) = g := ⟨_, rfl⟩
   obtain ⟨g2, kg⟩ : ∃ g2, IntKind.i64.wrap (g + 1) = g2 := ⟨_, rfl⟩
   refine δ hg ?_
   refine δ kg ?_
   refine γ.pure (a7 _ _) rfl ?_
   exact And.intro (aD (by simp [q2])) rfl
 ·have q1 : ¬ 0 ≤ b := by simpa using q1
  obtain ⟨g, hg⟩ : ∃ g, IntKind.i64.wrap (a - b) = g := ⟨_, rfl⟩
  obtain ⟨g2, kg⟩ : ∃ g2, IntKind.i64.wrap (g + 1) = g2 := ⟨_, rfl⟩
  refine δ hg ?_
  refine δ kg ?_
  refine γ.pure (a7 _ _) rfl ?_
  exact And.intro (aD (by simp [q1])) rfl
theorem HW (d : τ) (f : aj) (w a b : Int) (ha : aK a) (hb : aK b) {k0 : T} {x : Int} (dk : aW k0) (eD : 0 ≤ x ∧ x ≤ 128)
 (dC : φ Tryz.prog 126 [aq d, ab f, k0] (.t (.int .i64 x))) {k1 : T} {y : Int} (cI : aW k1) (lc : 0 ≤ y ∧ y ≤ 128)
 (fo : φ Tryz.prog 126 [aq d, ab f, k1] (.t (.int .i64 y))) :
 φ Tryz.prog 126 [aq d, ab f, .agg [.int .i64 1, .int .i64 w, .int .i64 a, .int .i64 b, .κ 5 [k0, k1]]] (.t (.int .i64 (bJ 1 x y))) := by
 cases dk with | mk o0 w0 a0 b0 s0 _ _ _ _ _ _ =>
 cases cI with | mk o1 w1 a1 b1 s1 _ _ _ _ _ _ =>
 have e : bJ 1 x y = if x = 0 ∨ y = 0 then 0 else (if x = y then x else 0) := by unfold bJ; simp
 rw [e]
 refine φ.Λ ?_ rfl
 refine γ.ο ζ η Tryz.func126 rfl rfl ?_
 refine υ bq (by decide +kernel) ?_
 refine γ.pure (show φ _ _ _ (.t (.int .i64 2)) from a_ 1) rfl ?_
 refine And.intro (fun j hj => by first | (cases hj; done) | exact ψ.append _ _ _) ?_
 refine bd 3 ?_
 refine γ.b9 dC rfl ⟨.refl _, .refl _, .refl _, trivial⟩ ?_
 refine U (fun c => ?_) (fun c0 => ?_)
 ·have c : x = 0 := by simpa using c
  exact And.intro (aD (if_pos (by omega)).symm) rfl
 have c0 : ¬ x = 0 := by simpa using c0
 refine γ.b9 fo rfl ⟨.refl _, .refl _, .refl _, trivial⟩ ?_
 refine U (fun c => ?_) (fun c1 => ?_)
 ·have c : y = 0 := by simpa using c
  exact And.intro (aD (if_pos (by omega)).symm) rfl
 have c1 : ¬ y = 0 := by simpa using c1
 have cz : ¬ (x = 0 ∨ y = 0) := by omega
 rw [if_neg cz]
 refine γ.pure (a7 _ _) rfl ?_
 exact And.intro (aD (by simp)) rfl
theorem HV (d : τ) (f : aj) (w a b : Int) (ha : aK a) (hb : aK b) {k0 : T} {x : Int} (dk : aW k0) (eD : 0 ≤ x ∧ x ≤ 128)
 (dC : φ Tryz.prog 126 [aq d, ab f, k0] (.t (.int .i64 x))) {k1 : T} {y : Int} (cI : aW k1) (lc : 0 ≤ y ∧ y ≤ 128)
 (fo : φ Tryz.prog 126 [aq d, ab f, k1] (.t (.int .i64 y))) :
 φ Tryz.prog 126 [aq d, ab f, .agg [.int .i64 2, .int .i64 w, .int .i64 a, .int .i64 b, .κ 5 [k0, k1]]] (.t (.int .i64 (bJ 2 x y))) := by
 cases dk with | mk o0 w0 a0 b0 s0 _ _ _ _ _ _ =>
 cases cI with | mk o1 w1 a1 b1 s1 _ _ _ _ _ _ =>
 have e : bJ 2 x y = if x = 0 ∨ y = 0 then 0 else (if x = y then x else 0) := by unfold bJ; simp
 rw [e]
 refine φ.Λ ?_ rfl
 refine γ.ο ζ η Tryz.func126 rfl rfl ?_
 refine υ bq (by decide +kernel) ?_
 refine γ.pure (show φ _ _ _ (.t (.int .i64 2)) from a_ 2) rfl ?_
 refine And.intro (fun j hj => by first | (cases hj; done) | exact ψ.append _ _ _) ?_
 refine bd 3 ?_
 refine γ.b9 dC rfl ⟨.refl _, .refl _, .refl _, trivial⟩ ?_
 refine U (fun c => ?_) (fun c0 => ?_)
 ·have c : x = 0 := by simpa using c
  exact And.intro (aD (if_pos (by omega)).symm) rfl
 have c0 : ¬ x = 0 := by simpa using c0
 refine γ.b9 fo rfl ⟨.refl _, .refl _, .refl _, trivial⟩ ?_
 refine U (fun c => ?_) (fun c1 => ?_)
 ·have c : y = 0 := by simpa using c
  exact And.intro (aD (if_pos (by omega)).symm) rfl
 have c1 : ¬ y = 0 := by simpa using c1
 have cz : ¬ (x = 0 ∨ y = 0) := by omega
 rw [if_neg cz]
 refine γ.pure (a7 _ _) rfl ?_
 exact And.intro (aD (by simp)) rfl
theorem HU (d : τ) (f : aj) (w a b : Int) (ha : aK a) (hb : aK b) {k0 : T} {x : Int} (dk : aW k0) (eD : 0 ≤ x ∧ x ≤ 128)
 (dC : φ Tryz.prog 126 [aq d, ab f, k0] (.t (.int .i64 x))) {k1 : T} {y : Int} (cI : aW k1) (lc : 0 ≤ y ∧ y ≤ 128)
 (fo : φ Tryz.prog 126 [aq d, ab f, k1] (.t (.int .i64 y))) :
 φ Tryz.prog 126 [aq d, ab f, .agg [.int .i64 3, .int .i64 w, .int .i64 a, .int .i64 b, .κ 5 [k0, k1]]] (.t (.int .i64 (bJ 3 x y))) := by
 cases dk with | mk o0 w0 a0 b0 s0 _ _ _ _ _ _ =>
 cases cI with | mk o1 w1 a1 b1 s1 _ _ _ _ _ _ =>
 have e : bJ 3 x y = if x = 0 ∨ y = 0 then 0 else (if x = y then x else 0) := by unfold bJ; simp
 rw [e]
 refine φ.Λ ?_ rfl
 refine γ.ο ζ η Tryz.func126 rfl rfl ?_
 refine υ bq (by decide +kernel) ?_
 refine γ.pure (show φ _ _ _ (.t (.int .i64 2)) from a_ 3) rfl ?_
 refine And.intro (fun j hj => by first | (cases hj; done) | exact ψ.append _ _ _) ?_
 refine bd 3 ?_
 refine γ.b9 dC rfl ⟨.refl _, .refl _, .refl _, trivial⟩ ?_
 refine U (fun c => ?_) (fun c0 => ?_)
 ·have c : x = 0 := by simpa using c
  exact And.intro (aD (if_pos (by omega)).symm) rfl
 have c0 : ¬ x = 0 := by simpa using c0
 refine γ.b9 fo rfl ⟨.refl _, .refl _, .refl _, trivial⟩ ?_
 refine U (fun c => ?_) (fun c1 => ?_)
 ·have c : y = 0 := by simpa using c
  exact And.intro (aD (if_pos (by omega)).symm) rfl
 have c1 : ¬ y = 0 := by simpa using c1
 have cz : ¬ (x = 0 ∨ y = 0) := by omega
 rw [if_neg cz]
 refine γ.pure (a7 _ _) rfl ?_
 exact And.intro (aD (by simp)) rfl
theorem HT (d : τ) (f : aj) (w a b : Int) (ha : aK a) (hb : aK b) {k0 : T} {x : Int} (dk : aW k0) (eD : 0 ≤ x ∧ x ≤ 128)
 (dC : φ Tryz.prog 126 [aq d, ab f, k0] (.t (.int .i64 x))) {k1 : T} {y : Int} (cI : aW k1) (lc : 0 ≤ y ∧ y ≤ 128)
 (fo : φ Tryz.prog 126 [aq d, ab f, k1] (.t (.int .i64 y))) :
 φ Tryz.prog 126 [aq d, ab f, .agg [.int .i64 4, .int .i64 w, .int .i64 a, .int .i64 b, .κ 5 [k0, k1]]] (.t (.int .i64 (bJ 4 x y))) := by
 cases dk with | mk o0 w0 a0 b0 s0 _ _ _ _ _ _ =>
 cases cI with | mk o1 w1 a1 b1 s1 _ _ _ _ _ _ =>
 have e : bJ 4 x y = if x = 0 ∨ y = 0 then 0 else (if x = y then x else 0) := by unfold bJ; simp
 rw [e]
 refine φ.Λ ?_ rfl
 refine γ.ο ζ η Tryz.func126 rfl rfl ?_
 refine υ bq (by decide +kernel) ?_
 refine γ.pure (show φ _ _ _ (.t (.int .i64 2)) from a_ 4) rfl ?_
 refine And.intro (fun j hj => by first | (cases hj; done) | exact ψ.append _ _ _) ?_
 refine bd 3 ?_
 refine γ.b9 dC rfl ⟨.refl _, .refl _, .refl _, trivial⟩ ?_
 refine U (fun c => ?_) (fun c0 => ?_)
 ·have c : x = 0 := by simpa using c
  exact And.intro (aD (if_pos (by omega)).symm) rfl
 have c0 : ¬ x = 0 := by simpa using c0
 refine γ.b9 fo rfl ⟨.refl _, .refl _, .refl _, trivial⟩ ?_
 refine U (fun c => ?_) (fun c1 => ?_)
 ·have c : y = 0 := by simpa using c
  exact And.intro (aD (if_pos (by omega)).symm) rfl
 have c1 : ¬ y = 0 := by simpa using c1
 have cz : ¬ (x = 0 ∨ y = 0) := by omega
 rw [if_neg cz]
 refine γ.pure (a7 _ _) rfl ?_
 exact And.intro (aD (by simp)) rfl
theorem HR (d : τ) (f : aj) (w a b : Int) (ha : aK a) (hb : aK b) {k0 : T} {x : Int} (dk : aW k0) (eD : 0 ≤ x ∧ x ≤ 128)
 (dC : φ Tryz.prog 126 [aq d, ab f, k0] (.t (.int .i64 x))) {k1 : T} {y : Int} (cI : aW k1) (lc : 0 ≤ y ∧ y ≤ 128)
 (fo : φ Tryz.prog 126 [aq d, ab f, k1] (.t (.int .i64 y))) :
 φ Tryz.prog 126 [aq d, ab f, .agg [.int .i64 5, .int .i64 w, .int .i64 a, .int .i64 b, .κ 5 [k0, k1]]] (.t (.int .i64 (bJ 5 x y))) := by
 cases dk with | mk o0 w0 a0 b0 s0 _ _ _ _ _ _ =>
 cases cI with | mk o1 w1 a1 b1 s1 _ _ _ _ _ _ =>
 have e : bJ 5 x y = if x = 0 ∨ y = 0 then 0 else (if x = y then x else 0) := by unfold bJ; simp
 rw [e]
 refine φ.Λ ?_ rfl
 refine γ.ο ζ η Tryz.func126 rfl rfl ?_
 refine υ bq (by decide +kernel) ?_
 refine γ.pure (show φ _ _ _ (.t (.int .i64 2)) from a_ 5) rfl ?_
 refine And.intro (fun j hj => by first | (cases hj; done) | exact ψ.append _ _ _) ?_
 refine bd 3 ?_
 refine γ.b9 dC rfl ⟨.refl _, .refl _, .refl _, trivial⟩ ?_
 refine U (fun c => ?_) (fun c0 => ?_)
 ·have c : x = 0 := by simpa using c
  exact And.intro (aD (if_pos (by omega)).symm) rfl
 have c0 : ¬ x = 0 := by simpa using c0
 refine γ.b9 fo rfl ⟨.refl _, .refl _, .refl _, trivial⟩ ?_
 refine U (fun c => ?_) (fun c1 => ?_)
 ·have c : y = 0 := by simpa using c
  exact And.intro (aD (if_pos (by omega)).symm) rfl
 have c1 : ¬ y = 0 := by simpa using c1
 have cz : ¬ (x = 0 ∨ y = 0) := by omega
 rw [if_neg cz]
 refine γ.pure (a7 _ _) rfl ?_
 exact And.intro (aD (by simp)) rfl
theorem HP (d : τ) (f : aj) (w a b : Int) (ha : aK a) (hb : aK b) {k0 : T} {x : Int} (dk : aW k0) (eD : 0 ≤ x ∧ x ≤ 128)
 (dC : φ Tryz.prog 126 [aq d, ab f, k0] (.t (.int .i64 x))) {k1 : T} {y : Int} (cI : aW k1) (lc : 0 ≤ y ∧ y ≤ 128)
 (fo : φ Tryz.prog 126 [aq d, ab f, k1] (.t (.int .i64 y))) :
 φ Tryz.prog 126 [aq d, ab f, .agg [.int .i64 6, .int .i64 w, .int .i64 a, .int .i64 b, .κ 5 [k0, k1]]] (.t (.int .i64 (bJ 6 x y))) := by
 cases dk with | mk o0 w0 a0 b0 s0 _ _ _ _ _ _ =>
 cases cI with | mk o1 w1 a1 b1 s1 _ _ _ _ _ _ =>
 have e : bJ 6 x y = if x = 0 ∨ y = 0 then 0 else (if x = y then x else 0) := by unfold bJ; simp
 rw [e]
 refine φ.Λ ?_ rfl
 refine γ.ο ζ η Tryz.func126 rfl rfl ?_
 refine υ bq (by decide +kernel) ?_
 refine γ.pure (show φ _ _ _ (.t (.int .i64 2)) from a_ 6) rfl ?_
 refine And.intro (fun j hj => by first | (cases hj; done) | exact ψ.append _ _ _) ?_
 refine bd 3 ?_
 refine γ.b9 dC rfl ⟨.refl _, .refl _, .refl _, trivial⟩ ?_
 refine U (fun c => ?_) (fun c0 => ?_)
 ·have c : x = 0 := by simpa using c
  exact And.intro (aD (if_pos (by omega)).symm) rfl
 have c0 : ¬ x = 0 := by simpa using c0
 refine γ.b9 fo rfl ⟨.refl _, .refl _, .refl _, trivial⟩ ?_
 refine U (fun c => ?_) (fun c1 => ?_)
 ·have c : y = 0 := by simpa using c
  exact And.intro (aD (if_pos (by omega)).symm) rfl
 have c1 : ¬ y = 0 := by simpa using c1
 have cz : ¬ (x = 0 ∨ y = 0) := by omega
 rw [if_neg cz]
 refine γ.pure (a7 _ _) rfl ?_
 exact And.intro (aD (by simp)) rfl
theorem HO (d : τ) (f : aj) (w a b : Int) (ha : aK a) (hb : aK b) {k0 : T} {x : Int} (dk : aW k0) (eD : 0 ≤ x ∧ x ≤ 128)
 (dC : φ Tryz.prog 126 [aq d, ab f, k0] (.t (.int .i64 x))) {k1 : T} {y : Int} (cI : aW k1) (lc : 0 ≤ y ∧ y ≤ 128)
 (fo : φ Tryz.prog 126 [aq d, ab f, k1] (.t (.int .i64 y))) :
 φ Tryz.prog 126 [aq d, ab f, .agg [.int .i64 7, .int .i64 w, .int .i64 a, .int .i64 b, .κ 5 [k0, k1]]] (.t (.int .i64 (bJ 7 x y))) := by
 cases dk with | mk o0 w0 a0 b0 s0 _ _ _ _ _ _ =>
 cases cI with | mk o1 w1 a1 b1 s1 _ _ _ _ _ _ =>
 have e : bJ 7 x y = if x = 0 ∨ y = 0 then 0 else x := by unfold bJ; simp
 rw [e]
 refine φ.Λ ?_ rfl
 refine γ.ο ζ η Tryz.func126 rfl rfl ?_
 refine υ bq (by decide +kernel) ?_
 refine γ.pure (show φ _ _ _ (.t (.int .i64 2)) from a_ 7) rfl ?_
 refine And.intro (fun j hj => by first | (cases hj; done) | exact ψ.append _ _ _) ?_
 refine bd 3 ?_
 refine γ.b9 dC rfl ⟨.refl _, .refl _, .refl _, trivial⟩ ?_
 refine U (fun c => ?_) (fun c0 => ?_)
 ·have c : x = 0 := by simpa using c
  exact And.intro (aD (if_pos (by omega)).symm) rfl
 have c0 : ¬ x = 0 := by simpa using c0
 refine γ.b9 fo rfl ⟨.refl _, .refl _, .refl _, trivial⟩ ?_
 refine U (fun c => ?_) (fun c1 => ?_)
 ·have c : y = 0 := by simpa using c
  exact And.intro (aD (if_pos (by omega)).symm) rfl
 have c1 : ¬ y = 0 := by simpa using c1
 have cz : ¬ (x = 0 ∨ y = 0) := by omega
 rw [if_neg cz]
 exact And.intro rfl rfl
theorem HN (d : τ) (f : aj) (w a b : Int) (ha : aK a) (hb : aK b) {k0 : T} {x : Int} (dk : aW k0) (eD : 0 ≤ x ∧ x ≤ 128)
 (dC : φ Tryz.prog 126 [aq d, ab f, k0] (.t (.int .i64 x))) {k1 : T} {y : Int} (cI : aW k1) (lc : 0 ≤ y ∧ y ≤ 128)
 (fo : φ Tryz.prog 126 [aq d, ab f, k1] (.t (.int .i64 y))) :
 φ Tryz.prog 126 [aq d, ab f, .agg [.int .i64 8, .int .i64 w, .int .i64 a, .int .i64 b, .κ 5 [k0, k1]]] (.t (.int .i64 (bJ 8 x y))) := by
 cases dk with | mk o0 w0 a0 b0 s0 _ _ _ _ _ _ =>
 cases cI with | mk o1 w1 a1 b1 s1 _ _ _ _ _ _ =>
 have e : bJ 8 x y = if x = 0 ∨ y = 0 then 0 else x := by unfold bJ; simp
 rw [e]
 refine φ.Λ ?_ rfl
 refine γ.ο ζ η Tryz.func126 rfl rfl ?_
 refine υ bq (by decide +kernel) ?_
 refine γ.pure (show φ _ _ _ (.t (.int .i64 2)) from a_ 8) rfl ?_
 refine And.intro (fun j hj => by first | (cases hj; done) | exact ψ.append _ _ _) ?_
 refine bd 3 ?_
 refine γ.b9 dC rfl ⟨.refl _, .refl _, .refl _, trivial⟩ ?_
 refine U (fun c => ?_) (fun c0 => ?_)
 ·have c : x = 0 := by simpa using c
  exact And.intro (aD (if_pos (by omega)).symm) rfl
 have c0 : ¬ x = 0 := by simpa using c0
 refine γ.b9 fo rfl ⟨.refl _, .refl _, .refl _, trivial⟩ ?_
 refine U (fun c => ?_) (fun c1 => ?_)
 ·have c : y = 0 := by simpa using c
  exact And.intro (aD (if_pos (by omega)).symm) rfl
 have c1 : ¬ y = 0 := by simpa using c1
 have cz : ¬ (x = 0 ∨ y = 0) := by omega
 rw [if_neg cz]
 exact And.intro rfl rfl
theorem HM (d : τ) (f : aj) (w a b : Int) (ha : aK a) (hb : aK b) {k0 : T} {x : Int} (dk : aW k0) (eD : 0 ≤ x ∧ x ≤ 128)
 (dC : φ Tryz.prog 126 [aq d, ab f, k0] (.t (.int .i64 x))) {k1 : T} {y : Int} (cI : aW k1) (lc : 0 ≤ y ∧ y ≤ 128)
 (fo : φ Tryz.prog 126 [aq d, ab f, k1] (.t (.int .i64 y))) :
 φ Tryz.prog 126 [aq d, ab f, .agg [.int .i64 9, .int .i64 w, .int .i64 a, .int .i64 b, .κ 5 [k0, k1]]] (.t (.int .i64 (bJ 9 x y))) := by
 cases dk with | mk o0 w0 a0 b0 s0 _ _ _ _ _ _ =>
 cases cI with | mk o1 w1 a1 b1 s1 _ _ _ _ _ _ =>
 have e : bJ 9 x y = if x = 0 ∨ y = 0 then 0 else x := by unfold bJ; simp
 rw [e]
 refine φ.Λ ?_ rfl
 refine γ.ο ζ η Tryz.func126 rfl rfl ?_
 refine υ bq (by decide +kernel) ?_
 refine γ.pure (show φ _ _ _ (.t (.int .i64 2)) from a_ 9) rfl ?_
 refine And.intro (fun j hj => by first | (cases hj; done) | exact ψ.append _ _ _) ?_
 refine bd 3 ?_
 refine γ.b9 dC rfl ⟨.refl _, .refl _, .refl _, trivial⟩ ?_
 refine U (fun c => ?_) (fun c0 => ?_)
 ·have c : x = 0 := by simpa using c
  exact And.intro (aD (if_pos (by omega)).symm) rfl
 have c0 : ¬ x = 0 := by simpa using c0
 refine γ.b9 fo rfl ⟨.refl _, .refl _, .refl _, trivial⟩ ?_
 refine U (fun c => ?_) (fun c1 => ?_)
 ·have c : y = 0 := by simpa using c
  exact And.intro (aD (if_pos (by omega)).symm) rfl
 have c1 : ¬ y = 0 := by simpa using c1
 have cz : ¬ (x = 0 ∨ y = 0) := by omega
 rw [if_neg cz]
 exact And.intro rfl rfl
theorem EB (d : τ) (f : aj) (w a b : Int) (ha : aK a) (hb : aK b) {k0 : T} {x : Int} (dk : aW k0) (eD : 0 ≤ x ∧ x ≤ 128)
 (dC : φ Tryz.prog 126 [aq d, ab f, k0] (.t (.int .i64 x))) {k1 : T} {y : Int} (cI : aW k1) (lc : 0 ≤ y ∧ y ≤ 128)
 (fo : φ Tryz.prog 126 [aq d, ab f, k1] (.t (.int .i64 y))) :
 φ Tryz.prog 126 [aq d, ab f, .agg [.int .i64 10, .int .i64 w, .int .i64 a, .int .i64 b, .κ 5 [k0, k1]]] (.t (.int .i64 (bJ 10 x y))) := by
 cases dk with | mk o0 w0 a0 b0 s0 _ _ _ _ _ _ =>
 cases cI with | mk o1 w1 a1 b1 s1 _ _ _ _ _ _ =>
 have e : bJ 10 x y = if x = 0 ∨ y = 0 then 0 else (if x = y then x else 0) := by unfold bJ; simp
 rw [e]
 refine φ.Λ ?_ rfl
 refine γ.ο ζ η Tryz.func126 rfl rfl ?_
 refine υ bq (by decide +kernel) ?_
 refine γ.pure (show φ _ _ _ (.t (.int .i64 2)) from a_ 10) rfl ?_
 refine And.intro (fun j hj => by first | (cases hj; done) | exact ψ.append _ _ _) ?_
 refine bd 3 ?_
 refine γ.b9 dC rfl ⟨.refl _, .refl _, .refl _, trivial⟩ ?_
 refine U (fun c => ?_) (fun c0 => ?_)
 ·have c : x = 0 := by simpa using c
  exact And.intro (aD (if_pos (by omega)).symm) rfl
 have c0 : ¬ x = 0 := by simpa using c0
 refine γ.b9 fo rfl ⟨.refl _, .refl _, .refl _, trivial⟩ ?_
 refine U (fun c => ?_) (fun c1 => ?_)
 ·have c : y = 0 := by simpa using c
  exact And.intro (aD (if_pos (by omega)).symm) rfl
 have c1 : ¬ y = 0 := by simpa using c1
 have cz : ¬ (x = 0 ∨ y = 0) := by omega
 rw [if_neg cz]
 refine γ.pure (a7 _ _) rfl ?_
 exact And.intro (aD (by simp)) rfl
theorem EA (d : τ) (f : aj) (w a b : Int) (ha : aK a) (hb : aK b) {k0 : T} {x : Int} (dk : aW k0) (eD : 0 ≤ x ∧ x ≤ 128)
 (dC : φ Tryz.prog 126 [aq d, ab f, k0] (.t (.int .i64 x))) {k1 : T} {y : Int} (cI : aW k1) (lc : 0 ≤ y ∧ y ≤ 128)
 (fo : φ Tryz.prog 126 [aq d, ab f, k1] (.t (.int .i64 y))) :
 φ Tryz.prog 126 [aq d, ab f, .agg [.int .i64 11, .int .i64 w, .int .i64 a, .int .i64 b, .κ 5 [k0, k1]]] (.t (.int .i64 (bJ 11 x y))) := by
 cases dk with | mk o0 w0 a0 b0 s0 _ _ _ _ _ _ =>
 cases cI with | mk o1 w1 a1 b1 s1 _ _ _ _ _ _ =>
 have e : bJ 11 x y = if x = 0 ∨ y = 0 then 0 else (if x = y then x else 0) := by unfold bJ; simp
 rw [e]
 refine φ.Λ ?_ rfl
 refine γ.ο ζ η Tryz.func126 rfl rfl ?_
 refine υ bq (by decide +kernel) ?_
 refine γ.pure (show φ _ _ _ (.t (.int .i64 2)) from a_ 11) rfl ?_
 refine And.intro (fun j hj => by first | (cases hj; done) | exact ψ.append _ _ _) ?_
 refine bd 3 ?_
 refine γ.b9 dC rfl ⟨.refl _, .refl _, .refl _, trivial⟩ ?_
 refine U (fun c => ?_) (fun c0 => ?_)
 ·have c : x = 0 := by simpa using c
  exact And.intro (aD (if_pos (by omega)).symm) rfl
 have c0 : ¬ x = 0 := by simpa using c0
 refine γ.b9 fo rfl ⟨.refl _, .refl _, .refl _, trivial⟩ ?_
 refine U (fun c => ?_) (fun c1 => ?_)
 ·have c : y = 0 := by simpa using c
  exact And.intro (aD (if_pos (by omega)).symm) rfl
 have c1 : ¬ y = 0 := by simpa using c1
 have cz : ¬ (x = 0 ∨ y = 0) := by omega
 rw [if_neg cz]
 refine γ.pure (a7 _ _) rfl ?_
 exact And.intro (aD (by simp)) rfl
theorem Ez (d : τ) (f : aj) (w a b : Int) (ha : aK a) (hb : aK b) {k0 : T} {x : Int} (dk : aW k0) (eD : 0 ≤ x ∧ x ≤ 128)
 (dC : φ Tryz.prog 126 [aq d, ab f, k0] (.t (.int .i64 x))) {k1 : T} {y : Int} (cI : aW k1) (lc : 0 ≤ y ∧ y ≤ 128)
 (fo : φ Tryz.prog 126 [aq d, ab f, k1] (.t (.int .i64 y))) :
 φ Tryz.prog 126 [aq d, ab f, .agg [.int .i64 12, .int .i64 w, .int .i64 a, .int .i64 b, .κ 5 [k0, k1]]] (.t (.int .i64 (bJ 12 x y))) := by
 cases dk with | mk o0 w0 a0 b0 s0 _ _ _ _ _ _ =>
 cases cI with | mk o1 w1 a1 b1 s1 _ _ _ _ _ _ =>
 have e : bJ 12 x y = if x = 0 ∨ y = 0 then 0 else (if x = y then x else 0) := by unfold bJ; simp
 rw [e]
 refine φ.Λ ?_ rfl
 refine γ.ο ζ η Tryz.func126 rfl rfl ?_
 refine υ bq (by decide +kernel) ?_
 refine γ.pure (show φ _ _ _ (.t (.int .i64 2)) from a_ 12) rfl ?_
 refine And.intro (fun j hj => by first | (cases hj; done) | exact ψ.append _ _ _) ?_
 refine bd 3 ?_
 refine γ.b9 dC rfl ⟨.refl _, .refl _, .refl _, trivial⟩ ?_
 refine U (fun c => ?_) (fun c0 => ?_)
 ·have c : x = 0 := by simpa using c
  exact And.intro (aD (if_pos (by omega)).symm) rfl
 have c0 : ¬ x = 0 := by simpa using c0
 refine γ.b9 fo rfl ⟨.refl _, .refl _, .refl _, trivial⟩ ?_
 refine U (fun c => ?_) (fun c1 => ?_)
 ·have c : y = 0 := by simpa using c
  exact And.intro (aD (if_pos (by omega)).symm) rfl
 have c1 : ¬ y = 0 := by simpa using c1
 have cz : ¬ (x = 0 ∨ y = 0) := by omega
 rw [if_neg cz]
 refine γ.pure (a7 _ _) rfl ?_
 exact And.intro (aD (by simp)) rfl
theorem Ey (d : τ) (f : aj) (w a b : Int) (ha : aK a) (hb : aK b) {k0 : T} {x : Int} (dk : aW k0) (eD : 0 ≤ x ∧ x ≤ 128)
 (dC : φ Tryz.prog 126 [aq d, ab f, k0] (.t (.int .i64 x))) {k1 : T} {y : Int} (cI : aW k1) (lc : 0 ≤ y ∧ y ≤ 128)
 (fo : φ Tryz.prog 126 [aq d, ab f, k1] (.t (.int .i64 y))) :
 φ Tryz.prog 126 [aq d, ab f, .agg [.int .i64 13, .int .i64 w, .int .i64 a, .int .i64 b, .κ 5 [k0, k1]]] (.t (.int .i64 (bJ 13 x y))) := by
 cases dk with | mk o0 w0 a0 b0 s0 _ _ _ _ _ _ =>
 cases cI with | mk o1 w1 a1 b1 s1 _ _ _ _ _ _ =>
 have e : bJ 13 x y = if x = 0 ∨ y = 0 then 0 else (if x = y then x else 0) := by unfold bJ; simp
 rw [e]
 refine φ.Λ ?_ rfl
 refine γ.ο ζ η Tryz.func126 rfl rfl ?_
 refine υ bq (by decide +kernel) ?_
 refine γ.pure (show φ _ _ _ (.t (.int .i64 2)) from a_ 13) rfl ?_
 refine And.intro (fun j hj => by first | (cases hj; done) | exact ψ.append _ _ _) ?_
 refine bd 3 ?_
 refine γ.b9 dC rfl ⟨.refl _, .refl _, .refl _, trivial⟩ ?_
 refine U (fun c => ?_) (fun c0 => ?_)
 ·have c : x = 0 := by simpa using c
  exact And.intro (aD (if_pos (by omega)).symm) rfl
 have c0 : ¬ x = 0 := by simpa using c0
 refine γ.b9 fo rfl ⟨.refl _, .refl _, .refl _, trivial⟩ ?_
 refine U (fun c => ?_) (fun c1 => ?_)
 ·have c : y = 0 := by simpa using c
  exact And.intro (aD (if_pos (by omega)).symm) rfl
 have c1 : ¬ y = 0 := by simpa using c1
 have cz : ¬ (x = 0 ∨ y = 0) := by omega
 rw [if_neg cz]
 refine γ.pure (a7 _ _) rfl ?_
 exact And.intro (aD (by simp)) rfl
theorem Eu (d : τ) (f : aj) (w a b : Int) (ha : aK a) (hb : aK b) {k0 : T} {x : Int} (dk : aW k0) (eD : 0 ≤ x ∧ x ≤ 128)
 (dC : φ Tryz.prog 126 [aq d, ab f, k0] (.t (.int .i64 x))) {k1 : T} {y : Int} (cI : aW k1) (lc : 0 ≤ y ∧ y ≤ 128)
 (fo : φ Tryz.prog 126 [aq d, ab f, k1] (.t (.int .i64 y))) :
 φ Tryz.prog 126 [aq d, ab f, .agg [.int .i64 14, .int .i64 w, .int .i64 a, .int .i64 b, .κ 5 [k0, k1]]] (.t (.int .i64 (bJ 14 x y))) := by
 cases dk with | mk o0 w0 a0 b0 s0 _ _ _ _ _ _ =>
 cases cI with | mk o1 w1 a1 b1 s1 _ _ _ _ _ _ =>
 have e : bJ 14 x y = if x = 0 ∨ y = 0 then 0 else (if x = y then 1 else 0) := by unfold bJ; simp
 rw [e]
 refine φ.Λ ?_ rfl
 refine γ.ο ζ η Tryz.func126 rfl rfl ?_
 refine υ bq (by decide +kernel) ?_
 refine γ.pure (show φ _ _ _ (.t (.int .i64 2)) from a_ 14) rfl ?_
 refine And.intro (fun j hj => by first | (cases hj; done) | exact ψ.append _ _ _) ?_
 refine bd 3 ?_
 refine γ.b9 dC rfl ⟨.refl _, .refl _, .refl _, trivial⟩ ?_
 refine U (fun c => ?_) (fun c0 => ?_)
 ·have c : x = 0 := by simpa using c
  exact And.intro (aD (if_pos (by omega)).symm) rfl
 have c0 : ¬ x = 0 := by simpa using c0
 refine γ.b9 fo rfl ⟨.refl _, .refl _, .refl _, trivial⟩ ?_
 refine U (fun c => ?_) (fun c1 => ?_)
 ·have c : y = 0 := by simpa using c
  exact And.intro (aD (if_pos (by omega)).symm) rfl
 have c1 : ¬ y = 0 := by simpa using c1
 have cz : ¬ (x = 0 ∨ y = 0) := by omega
 rw [if_neg cz]
 refine γ.pure (a7 _ _) rfl ?_
 exact And.intro (aD (by simp)) rfl
theorem Et (d : τ) (f : aj) (w a b : Int) (ha : aK a) (hb : aK b) {k0 : T} {x : Int} (dk : aW k0) (eD : 0 ≤ x ∧ x ≤ 128)
 (dC : φ Tryz.prog 126 [aq d, ab f, k0] (.t (.int .i64 x))) {k1 : T} {y : Int} (cI : aW k1) (lc : 0 ≤ y ∧ y ≤ 128)
 (fo : φ Tryz.prog 126 [aq d, ab f, k1] (.t (.int .i64 y))) :
 φ Tryz.prog 126 [aq d, ab f, .agg [.int .i64 15, .int .i64 w, .int .i64 a, .int .i64 b, .κ 5 [k0, k1]]] (.t (.int .i64 (bJ 15 x y))) := by
 cases dk with | mk o0 w0 a0 b0 s0 _ _ _ _ _ _ =>
 cases cI with | mk o1 w1 a1 b1 s1 _ _ _ _ _ _ =>
 have e : bJ 15 x y = if x = 0 ∨ y = 0 then 0 else (if x = y then 1 else 0) := by unfold bJ; simp
 rw [e]
 refine φ.Λ ?_ rfl
 refine γ.ο ζ η Tryz.func126 rfl rfl ?_
 refine υ bq (by decide +kernel) ?_
 refine γ.pure (show φ _ _ _ (.t (.int .i64 2)) from a_ 15) rfl ?_
 refine And.intro (fun j hj => by first | (cases hj; done) | exact ψ.append _ _ _) ?_
 refine bd 3 ?_
 refine γ.b9 dC rfl ⟨.refl _, .refl _, .refl _, trivial⟩ ?_
 refine U (fun c => ?_) (fun c0 => ?_)
 ·have c : x = 0 := by simpa using c
  exact And.intro (aD (if_pos (by omega)).symm) rfl
 have c0 : ¬ x = 0 := by simpa using c0
 refine γ.b9 fo rfl ⟨.refl _, .refl _, .refl _, trivial⟩ ?_
 refine U (fun c => ?_) (fun c1 => ?_)
 ·have c : y = 0 := by simpa using c
  exact And.intro (aD (if_pos (by omega)).symm) rfl
 have c1 : ¬ y = 0 := by simpa using c1
 have cz : ¬ (x = 0 ∨ y = 0) := by omega
 rw [if_neg cz]
 refine γ.pure (a7 _ _) rfl ?_
 exact And.intro (aD (by simp)) rfl
theorem Es (d : τ) (f : aj) (w a b : Int) (ha : aK a) (hb : aK b) {k0 : T} {x : Int} (dk : aW k0) (eD : 0 ≤ x ∧ x ≤ 128)
 (dC : φ Tryz.prog 126 [aq d, ab f, k0] (.t (.int .i64 x))) {k1 : T} {y : Int} (cI : aW k1) (lc : 0 ≤ y ∧ y ≤ 128)
 (fo : φ Tryz.prog 126 [aq d, ab f, k1] (.t (.int .i64 y))) :
 φ Tryz.prog 126 [aq d, ab f, .agg [.int .i64 16, .int .i64 w, .int .i64 a, .int .i64 b, .κ 5 [k0, k1]]] (.t (.int .i64 (bJ 16 x y))) := by
 cases dk with | mk o0 w0 a0 b0 s0 _ _ _ _ _ _ =>
 cases cI with | mk o1 w1 a1 b1 s1 _ _ _ _ _ _ =>
 have e : bJ 16 x y = if x = 0 ∨ y = 0 then 0 else (if x = y then 1 else 0) := by unfold bJ; simp
 rw [e]
 refine φ.Λ ?_ rfl
 refine γ.ο ζ η Tryz.func126 rfl rfl ?_
 refine υ bq (by decide +kernel) ?_
 refine γ.pure (show φ _ _ _ (.t (.int .i64 2)) from a_ 16) rfl ?_
 refine And.intro (fun j hj => by first | (cases hj; done) | exact ψ.append _ _ _) ?_
 refine bd 3 ?_
 refine γ.b9 dC rfl ⟨.refl _, .refl _, .refl _, trivial⟩ ?_
 refine U (fun c => ?_) (fun c0 => ?_)
 ·have c : x = 0 := by simpa using c
  exact And.intro (aD (if_pos (by omega)).symm) rfl
 have c0 : ¬ x = 0 := by simpa using c0
 refine γ.b9 fo rfl ⟨.refl _, .refl _, .refl _, trivial⟩ ?_
 refine U (fun c => ?_) (fun c1 => ?_)
 ·have c : y = 0 := by simpa using c
  exact And.intro (aD (if_pos (by omega)).symm) rfl
 have c1 : ¬ y = 0 := by simpa using c1
 have cz : ¬ (x = 0 ∨ y = 0) := by omega
 rw [if_neg cz]
 refine γ.pure (a7 _ _) rfl ?_
 exact And.intro (aD (by simp)) rfl
theorem Er (d : τ) (f : aj) (w a b : Int) (ha : aK a) (hb : aK b) {k0 : T} {x : Int} (dk : aW k0) (eD : 0 ≤ x ∧ x ≤ 128)
 (dC : φ Tryz.prog 126 [aq d, ab f, k0] (.t (.int .i64 x))) {k1 : T} {y : Int} (cI : aW k1) (lc : 0 ≤ y ∧ y ≤ 128)
 (fo : φ Tryz.prog 126 [aq d, ab f, k1] (.t (.int .i64 y))) :
 φ Tryz.prog 126 [aq d, ab f, .agg [.int .i64 17, .int .i64 w, .int .i64 a, .int .i64 b, .κ 5 [k0, k1]]] (.t (.int .i64 (bJ 17 x y))) := by
 cases dk with | mk o0 w0 a0 b0 s0 _ _ _ _ _ _ =>
 cases cI with | mk o1 w1 a1 b1 s1 _ _ _ _ _ _ =>
 have e : bJ 17 x y = if x = 0 ∨ y = 0 then 0 else (if x + y ≤ 128 then x + y else 0) := by unfold bJ; simp
 rw [e]
 refine φ.Λ ?_ rfl
 refine γ.ο ζ η Tryz.func126 rfl rfl ?_
 refine υ bq (by decide +kernel) ?_
 refine γ.pure (show φ _ _ _ (.t (.int .i64 2)) from a_ 17) rfl ?_
 refine And.intro (fun j hj => by first | (cases hj; done) | exact ψ.append _ _ _) ?_
 refine bd 3 ?_
 refine γ.b9 dC rfl ⟨.refl _, .refl _, .refl _, trivial⟩ ?_
 refine U (fun c => ?_) (fun c0 => ?_)
 ·have c : x = 0 := by simpa using c
  exact And.intro (aD (if_pos (by omega)).symm) rfl
 have c0 : ¬ x = 0 := by simpa using c0
 refine γ.b9 fo rfl ⟨.refl _, .refl _, .refl _, trivial⟩ ?_
 refine U (fun c => ?_) (fun c1 => ?_)
 ·have c : y = 0 := by simpa using c
  exact And.intro (aD (if_pos (by omega)).symm) rfl
 have c1 : ¬ y = 0 := by simpa using c1
 have cz : ¬ (x = 0 ∨ y = 0) := by omega
 rw [if_neg cz]
 refine δ (gh (n := x + y) (by omega) (by omega)) ?_
 refine δ (gh (n := x + y) (by omega) (by omega)) ?_
 refine γ.pure (a7 _ _) rfl ?_
 exact And.intro (aD (by simp)) rfl
theorem Ep (d : τ) (f : aj) (w a b : Int) (ha : aK a) (hb : aK b) {k0 : T} {x : Int} (dk : aW k0) (eD : 0 ≤ x ∧ x ≤ 128)
 (dC : φ Tryz.prog 126 [aq d, ab f, k0] (.t (.int .i64 x))) {k1 : T} {y : Int} (cI : aW k1) (lc : 0 ≤ y ∧ y ≤ 128)
 (fo : φ Tryz.prog 126 [aq d, ab f, k1] (.t (.int .i64 y))) {k2 : T} {z : Int} (dA : aW k2) (fx : 0 ≤ z ∧ z ≤ 128)
 (yu : φ Tryz.prog 126 [aq d, ab f, k2] (.t (.int .i64 z))) :
 φ Tryz.prog 126 [aq d, ab f, .agg [.int .i64 27, .int .i64 w, .int .i64 a, .int .i64 b, .κ 5 [k0, k1, k2]]] (.t (.int .i64 (oI 27 x y z))) := by
 cases dk with | mk o0 w0 a0 b0 s0 _ _ _ _ _ _ =>
 cases cI with | mk o1 w1 a1 b1 s1 _ _ _ _ _ _ =>
 cases dA with | mk o2 w2 a2 b2 s2 _ _ _ _ _ _ =>
 have e : oI 27 x y z = if x = 0 ∨ y = 0 ∨ z = 0 then 0 else (if x = 1 ∧ y = z then y else 0) := by unfold oI; simp
 rw [e]
 refine φ.Λ ?_ rfl
 refine γ.ο ζ η Tryz.func126 rfl rfl ?_
 refine υ bq (by decide +kernel) ?_
 refine γ.pure (show φ _ _ _ (.t (.int .i64 3)) from a_ 27) rfl ?_
 refine And.intro (fun j hj => by first | (cases hj; done) | exact ψ.append _ _ _) ?_
 refine bd 4 ?_
 refine γ.b9 dC rfl ⟨.refl _, .refl _, .refl _, trivial⟩ ?_
 refine U (fun c => ?_) (fun c0 => ?_)
 ·have c : x = 0 := by simpa using c
  exact And.intro (aD (if_pos (by omega)).symm) rfl
 have c0 : ¬ x = 0 := by simpa using c0
 refine γ.b9 fo rfl ⟨.refl _, .refl _, .refl _, trivial⟩ ?_
 refine U (fun c => ?_) (fun c1 => ?_)
 ·have c : y = 0 := by simpa using c
  exact And.intro (aD (if_pos (by omega)).symm) rfl
 have c1 : ¬ y = 0 := by simpa using c1
 refine γ.b9 yu rfl ⟨.refl _, .refl _, .refl _, trivial⟩ ?_
 refine U (fun c => ?_) (fun c2 => ?_)
 ·have c : z = 0 := by simpa using c
  exact And.intro (aD (if_pos (by omega)).symm) rfl
 have c2 : ¬ z = 0 := by simpa using c2
 have cz : ¬ (x = 0 ∨ y = 0 ∨ z = 0) := by omega
 rw [if_neg cz]
 refine U (fun q1 => ?_) (fun q1 => ?_)
 ·have q1 : x = 1 := by simpa using q1
  refine γ.pure (a7 _ _) rfl ?_
  exact And.intro (aD (by simp [q1])) rfl
 ·have q1 : ¬ x = 1 := by simpa using q1
  refine γ.pure (a7 _ _) rfl ?_
  exact And.intro (aD (by simp [q1])) rfl
end Go.Proofs.YtcogcbplmkcojaaGreatDoor
