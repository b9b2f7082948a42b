/-
  The rest of a description: relocations, uses, relaxings, macros.
-/
import Derived.Test.YtcogcbplmkcojaaGreatDoorHc
namespace Go.Proofs.YtcogcbplmkcojaaGreatDoor
open Go.IntWalk
set_option maxRecDepth 100000
set_option linter.unusedVariables false
set_option linter.unusedSimpArgs false
set_option maxHeartbeats 1000000
def lW (d : τ) : T := .cO [.str d.name, .int .i64 d.order, .κ 4 (d.files.map dz), .κ 3 (d.aa.map bl), .κ 1 (d.flags.map T.str), .κ 7 (d.classes.map aV), .κ 5 (d.forms.map ab), .κ 17 (d.au.map ei), .κ 4 (d.uses.map fE), .κ 3 (d.ar.map cG), .κ 3 (d.macros.map db), .κ 2 (d.aR.map fk), .κ 3 (d.aN.map bl)]
def uk (d : τ) (x : nX) : Prop := (0 ≤ x.bn ∧ x.bn < d.classes.length) ∧ 1 < ga d x.rel ∧ (ga d x.rel = 3 → ∃ y, cV d.au x.rel = some y ∧ y.bn = x.bn)
def uo (d : τ) (x : jX) : Prop := x.rel = -1 ∨ 1 < ga d x.rel
def jU (d : τ) (x : d_) : Prop := ga d x.rel = 4 ∧ ga d x.to = 3 ∧ ∃ fm, cV d.forms x.form = some fm ∧ ∃ y, cV d.au x.to = some y ∧ ∃ a ∈ fm.args, a.bn = y.bn
structure wU (d : τ) : Prop where
 au : ∀ x ∈ d.au, fB d x
 uses : ∀ x ∈ d.uses, uk d x
 ar : ∀ x ∈ d.ar, jU d x
 macros : ∀ x ∈ d.macros, uo d x
theorem KY (d : τ) (x : nX) : af Tryz.prog 76 [fE x, lW d] (aO (uk d x)) := by
 have hk := pV d x.rel
 obtain ⟨k, Gf⟩ : ∃ k, k = ga d x.rel := ⟨_, rfl⟩
 have hU : uk d x ↔ (0 ≤ x.bn ∧ x.bn < d.classes.length) ∧ 1 < k ∧ (k = 3 → ∃ y, cV d.au x.rel = some y ∧ y.bn = x.bn) := by rw [Gf]; exact Iff.rfl
 rw [← Gf] at hk
 refine af.Λ ?_ aO.aL
 refine γ.ο ζ η Tryz.func76 rfl rfl ?_
 refine γ.pure hk rfl ?_
 refine υ Iy (by decide +kernel) ?_
 refine γ.pure (bQ _ _) rfl ?_
 refine And.intro (fun j hj => by first | (cases hj; done) | exact ψ.append _ _ _ | exact ψ.refl _ _) ?_
 refine U (fun c1 => ?_) (fun c1 => ?_)
 rotate_left 1
 ·refine And.intro (fun j hj => by first | (cases hj; done) | exact ψ.append _ _ _ | exact ψ.refl _ _) ?_
  exact ae fun h => lZ (show decide _ = false from c1) (hU.1 h).1
 have c1 := oh (show decide _ = true from c1)
 refine U (fun c2 => ?_) (fun c2 => ?_)
 rotate_left 1
 ·refine And.intro (fun j hj => by first | (cases hj; done) | exact ψ.append _ _ _ | exact ψ.refl _ _) ?_
  exact ae fun h => by have := (hU.1 h).2.1; have := of_decide_eq_false c2; omega
 have c2 : k > 1 := by simpa using c2
 have hr : 0 ≤ x.rel ∧ x.rel < d.au.length := An (by omega)
 obtain ⟨y, s_, _, hy⟩ := cN hr
 refine U (fun c3 => ?_) (fun c3 => ?_)
 ·refine And.intro (fun j hj => by first | (cases hj; done) | exact ψ.append _ _ _ | exact ψ.refl _ _) ?_
  have c3 : ¬ k = 3 := by simpa using c3
  exact aU ⟨fun _ => hU.2 ⟨c1, c2, fun h => absurd h c3⟩, fun _ => rfl⟩
 ·have c3 : k = 3 := by simpa using c3
  refine ε (gn rfl hr.1) ?_
  refine ξ (bW hy) ?_
  refine And.intro (fun j hj => by first | (cases hj; done) | exact ψ.append _ _ _ | exact ψ.refl _ _) ?_
  exact aU ⟨fun h => hU.2 ⟨c1, c2, fun _ => ⟨y, s_, by simpa using h⟩⟩, fun h => by
   obtain ⟨z, hz, e⟩ := (hU.1 h).2.2 c3
   cases sa s_ hz
   simpa using e⟩
theorem FN (d : τ) (x : jX) : af Tryz.prog 81 [db x, lW d] (aO (uo d x)) := by
 refine af.Λ ?_ aO.aL
 refine γ.ο ζ η Tryz.func81 rfl rfl ?_
 refine U (fun c => ?_) (fun c => ?_)
 ·exact aU ⟨fun _ => .inl (by simpa using c), fun _ => rfl⟩
 have c : ¬ x.rel = -1 := by simpa using c
 refine γ.pure (pV d x.rel) rfl ?_
 exact aU ⟨fun h => .inr (by have := of_decide_eq_true h; omega), fun h => by
  rcases h with h | h
  ·exact absurd h c
  ·exact decide_eq_true (by omega)⟩
theorem BG (d : τ) (x : d_) (yA : ∀ fm ∈ d.forms, fm.args.length ≤ 9223372036854775807) : af Tryz.prog 78 [cG x, lW d] (aO (jU d x)) := by
 have cI := pV d x.rel
 have dA := pV d x.to
 obtain ⟨k, Gf⟩ : ∃ k, k = ga d x.to := ⟨_, rfl⟩
 obtain ⟨k1, M5⟩ : ∃ k, k = ga d x.rel := ⟨_, rfl⟩
 have hU : jU d x ↔ k1 = 4 ∧ k = 3 ∧ ∃ fm, cV d.forms x.form = some fm ∧ ∃ y, cV d.au x.to = some y ∧ ∃ a ∈ fm.args, a.bn = y.bn := by rw [Gf, M5]; exact Iff.rfl
 rw [← Gf] at dA
 rw [← M5] at cI
 refine af.Λ ?_ aO.aL
 refine γ.ο ζ η Tryz.func78 rfl rfl ?_
 refine γ.pure cI rfl ?_
 refine U (fun c0 => ?_) (fun c0 => ?_)
 ·exact ae fun h => by have c0 : ¬ k1 = 4 := by simpa using c0
                       exact c0 (hU.1 h).1
 have c0 : k1 = 4 := by simpa using c0
 refine γ.pure dA rfl ?_
 refine U (fun c2 => ?_) (fun c2 => ?_)
 ·exact ae fun h => by have c2 : ¬ k = 3 := by simpa using c2
                       exact c2 (hU.1 h).2.1
 have c2 : k = 3 := by simpa using c2
 have hr : 0 ≤ x.to ∧ x.to < d.au.length := An (by omega)
 obtain ⟨y, s_, _, hy⟩ := cN hr
 refine γ.pure (bQ _ _) rfl ?_
 refine U (fun c3 => ?_) (fun c3 => ?_)
 ·exact ae fun h => by obtain ⟨_, _, fm, lf, _⟩ := hU.1 h; exact lZ (pU (show (!decide _) = true from c3)) (pw lf)
 have c3 := oh (nf (show (!decide _) = false from c3))
 obtain ⟨fm, Nk, Qc, lf⟩ := cN c3
 have yA := yA fm Qc
 have hV : jU d x ↔ ∃ a ∈ fm.args, a.bn = y.bn := by
  rw [hU]
  constructor
  ·rintro ⟨_, _, TF, h1, y2, h2, h3⟩
   cases sa Nk h1
   cases sa s_ h2
   exact h3
  ·exact fun h => ⟨c0, c2, fm, Nk, y, s_, h⟩
 refine ε (gn rfl c3.1) ?_
 refine ξ (bW lf) ?_
 refine γ.ο ζ η Tryz.func79 rfl rfl ?_
 refine γ.ο ζ η Tryz.func129 rfl rfl ?_
 refine ak (fun i : Nat => i ≤ fm.args.length ∧ ∀ a ∈ fm.args.take i, ¬ a.bn = y.bn) (fun i => ⟨[(0, .t (.κ 2 (fm.args.map Φ))), (1, .fn (.func 80) [] [.t (lW d), .ptr 0 0 0 0]), (7, .t (.int .i64 ((fm.args.map Φ).length : Int))), (8, .t (.int .i64 i))], [.box [.t (.int .i64 x.rel), .t (.int .i64 x.form), .t (.int .i64 x.to)]]⟩)
  (fun i => fm.args.length - i) 0 ⟨Nat.zero_le _, by simp⟩ ?_ (fun i ⟨hi, hP⟩ => ?_)
 ·exact a8 ⟨rfl, rfl, rfl, rfl, trivial⟩ rfl
 have eT : (fm.args.map Φ).length = fm.args.length := by simp
 refine U (fun c => ?_) (fun c => ?_)
 ·have c : i < fm.args.length := by have := dn c; omega
  obtain ⟨z, hz, F2⟩ := get_some (R := fm.args) (i := i) c
  refine ξ (show (fm.args.map Φ)[((i : Nat) : Int).toNat]? = some (Φ z) from by rw [Int.toNat_natCast, List.getElem?_map, hz]; rfl) ?_
  refine γ.ο ζ η Tryz.func80 rfl rfl ?_
  refine υ Ix (by decide +kernel) ?_
  refine ε (gn rfl hr.1) ?_
  refine ξ (bW hy) ?_
  refine And.intro (fun j hj => by first | (cases hj; done) | exact ψ.append _ _ _ | exact ψ.refl _ _) ?_
  refine U (fun c4 => ?_) (fun c4 => ?_)
  ·exact aU ⟨fun _ => hV.2 ⟨z, F2, by simpa using c4⟩, fun _ => decide_eq_true (by omega)⟩
  ·have c4 : ¬ z.bn = y.bn := by simpa using c4
   refine δ (n := ((i + 1 : Nat) : Int)) (ag (n := i + 1) (by omega)) ?_
   conv => whnf
   exact ⟨⟨i + 1, c, eh hz hP c4⟩, π [0] rfl ⟨rfl, rfl, rfl, rfl, trivial⟩ ⟨rfl, trivial⟩, by show fm.args.length - (i + 1) < fm.args.length - i; omega⟩
 ·have c : i = fm.args.length := by have := dE c; omega
  rw [c, List.take_length] at hP
  exact ae fun h => by obtain ⟨a, h1, h2⟩ := hV.1 h; exact hP a h1 h2
theorem Il (d : τ) (hd : d.ok) : af Tryz.prog 28 [aq d] (aO (wU d)) := by
 have Tt := hd
 obtain ⟨_, _, l1, o1, l2, o2, l3, o3, l4, o4, l5, o5, l6, o6, l7, o7, l8, o8, l9, o9, QF, QE, Mt, QD⟩ := hd
 have hA : af Tryz.prog 82 [.κ 17 (d.au.map ei), .fn (.func 83) [aq d] []] (aO (∀ x ∈ d.au, fB d x)) :=
  D5 _ (aq d) d.au (fB d) (du l6) fun x hx => K4 d x (o6 x hx)
 have hB : af Tryz.prog 84 [.κ 4 (d.uses.map fE), .fn (.func 76) [] [lW d]] (aO (∀ x ∈ d.uses, uk d x)) :=
  D4 _ (lW d) d.uses (uk d) (du l7) fun x hx => KY d x
 have hC : af Tryz.prog 85 [.κ 3 (d.ar.map cG), .fn (.func 78) [] [lW d]] (aO (∀ x ∈ d.ar, jU d x)) :=
  xL _ (lW d) d.ar (jU d) (du l8) fun x hx => BG d x (fun fm lf => du (o5 fm lf).2.2.1)
 have hD : af Tryz.prog 86 [.κ 3 (d.macros.map db), .fn (.func 81) [] [lW d]] (aO (∀ x ∈ d.macros, uo d x)) :=
  Bm _ (lW d) d.macros (uo d) (du l9) fun x hx => FN d x
 refine af.Λ ?_ aO.aL
 refine γ.ο ζ η Tryz.func28 rfl rfl ?_
 refine γ.cD hA rfl ⟨.refl _, .refl _, trivial⟩ ?_
 rintro _ ⟨bA, rfl, pA⟩
 refine U (fun cA => ?_) (fun cA => ?_)
 rotate_left 1
 ·exact ae fun h => absurd (pA.2 h.au) (by simpa using cA)
 refine γ.vH hB rfl ⟨.refl _, .refl _, trivial⟩ aO.flat ?_
 rintro _ ⟨bB, rfl, pB⟩
 refine U (fun cB => ?_) (fun cB => ?_)
 rotate_left 1
 ·exact ae fun h => absurd (pB.2 h.uses) (by simpa using cB)
 refine γ.vH hC rfl ⟨.refl _, .refl _, trivial⟩ aO.flat ?_
 rintro _ ⟨bC, rfl, pC⟩
 refine U (fun cC => ?_) (fun cC => ?_)
 rotate_left 1
 ·exact ae fun h => absurd (pC.2 h.ar) (by simpa using cC)
 refine γ.vH hD rfl ⟨.refl _, .refl _, trivial⟩ aO.flat ?_
 rintro _ ⟨bD, rfl, pD⟩
 exact aU ⟨fun h => ⟨pA.1 cA, pB.1 cB, pC.1 cC, pD.1 h⟩, fun h => pD.2 h.macros⟩
end Go.Proofs.YtcogcbplmkcojaaGreatDoor
