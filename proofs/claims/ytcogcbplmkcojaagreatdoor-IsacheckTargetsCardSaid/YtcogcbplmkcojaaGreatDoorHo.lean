/-
  Check: what a description is that it lets pass (walk).
-/
import Derived.Test.YtcogcbplmkcojaaGreatDoorHn
namespace Go.Proofs.YtcogcbplmkcojaaGreatDoor
open Go.IntWalk
set_option maxRecDepth 100000
set_option linter.unusedVariables false
set_option linter.unusedSimpArgs false
set_option maxHeartbeats 1000000
def It : Ord := (.op 0 [] (.op 1 [0] (.op 2 [0] (.op 3 [2, 1, 0] (.op 4 [0] (.op 5 [0] (.op 6 [5, 4, 3, 2, 1, 0] (.op 7 [6, 5, 4, 3, 2, 1, 0] (.op 8 [7, 6, 5, 4, 3, 2, 1, 0] (.op 9 [6, 5, 4, 3, 2, 1, 0] (.op 10 [6, 5, 4, 3, 2, 1, 0] (.op 11 [10, 9, 8, 7, 6, 5, 4, 3, 2, 1, 0] (.op 12 [11, 10, 9, 8, 7, 6, 5, 4, 3, 2, 1, 0] (.op 13 [10, 9, 8, 7, 6, 5, 4, 3, 2, 1, 0] (.op 14 [10, 9, 8, 7, 6, 5, 4, 3, 2, 1, 0] (.op 15 [] (.op 16 [] .nil)))))))))))))))))
structure j9 (d : τ) : Prop where
 parts : li d
 forms : ∀ f ∈ d.forms, di d f
 apart : ∀ (i j : Nat) f g, i < j → d.forms[i]? = some f → d.forms[j]? = some g → iG d f g
 Kx : ∀ f ∈ d.forms, ∀ t ∈ f.gj, eB d f t
 rest : wU d
def l_ (d : τ) (f : aj) : Prop := di d f ∧ ∀ t ∈ f.gj, eB d f t
inductive gi (d : τ) : Int → Int → Prop
 | parts (h : ¬ li d) : gi d (-1) 51
 | pattern (i : Nat) (f) (hp : li d) (hf : d.forms[i]? = some f) (hb : ∀ (k : Nat) g, k < i → d.forms[k]? = some g → l_ d g) (h : ¬ di d f) : gi d i 52
 | OY (i : Nat) (f) (hp : li d) (hf : d.forms[i]? = some f) (hb : ∀ (k : Nat) g, k < i → d.forms[k]? = some g → l_ d g) (hG : di d f) (h : ¬ ∀ t ∈ f.gj, eB d f t) : gi d i 53
 | Kz (i j : Nat) (f g) (hp : li d) (ha : ∀ (k : Nat) g, d.forms[k]? = some g → l_ d g) (hi : i < j) (hf : d.forms[i]? = some f) (hg : d.forms[j]? = some g)
  (hb : ∀ (i' j' : Nat) f g, i' < j' → j' < j → d.forms[i']? = some f → d.forms[j']? = some g → iG d f g) (h : ¬ iG d f g) : gi d j 54
 | rest (hp : li d) (ha : ∀ (k : Nat) g, d.forms[k]? = some g → l_ d g) (hA : ∀ (i j : Nat) f g, i < j → d.forms[i]? = some f → d.forms[j]? = some g → iG d f g) (h : ¬ wU d) : gi d (-1) 51
 | ok (h : j9 d) : gi d 0 0
theorem j9.form {d : τ} (h : j9 d) {k : Nat} {g : aj} (hg : d.forms[k]? = some g) : l_ d g := ⟨h.forms g (List.mem_of_getElem? hg), h.Kx g (List.mem_of_getElem? hg)⟩
theorem gi.JU {d : τ} {n e : Int} (h : gi d n e) (k : j9 d) : n = 0 ∧ e = 0 := by
 cases h with
 | parts h => exact absurd k.parts h
 | pattern i f hp hf hb h => exact absurd (k.form hf).1 h
 | OY i f hp hf hb hG h => exact absurd (k.form hf).2 h
 | Kz i j f g hp ha hi hf hg hb h => exact absurd (k.apart i j f g hi hf hg) h
 | rest hp ha hA h => exact absurd k.rest h
 | ok h => exact ⟨rfl, rfl⟩
def tM (d : τ) (r : AV) : Prop := ∃ n e : Int, r = .ao [.t (.int .i64 n), .t (.int .i64 e)] ∧ gi d n e
theorem tM.aL {d : τ} : ∀ r, tM d r → aL r = true := by rintro r ⟨_, _, rfl, _⟩; rfl
def HB (d : τ) (r : AV) : Prop := ∃ n e : Int, r = .ao [.t (.int .i64 n), .t (.int .i64 e)] ∧ (e = 0 → j9 d)
theorem HB.aL {d : τ} : ∀ r, HB d r → aL r = true := by rintro r ⟨_, _, rfl, _⟩; rfl
theorem nI {d : τ} {n e : Int} {H : AH} (h : gi d n e) : ∃ r, tM d r ∧ j8 r (.ao [.t (.int .i64 n), .t (.int .i64 e)]) H :=
 ⟨_, ⟨n, e, rfl, h⟩, ⟨⟨_, _, rfl, .refl _⟩, ⟨_, _, rfl, .refl _⟩, trivial⟩, rfl⟩
abbrev sx : Nat := 77
theorem NU {n : Nat} (h : n ≤ 100000) : eK n 56 = true := by simp [eK]; omega
def Bt (d : τ) (l : List T) : Prop := l.length ≤ d.forms.length ∧ ∀ k f, k < l.length → d.forms[k]? = some f → di d f ∧ ∃ m0 m1 w0 w1 : Nat, l[k]? = some (rC (.vec 3 ((aE d f).map aA)) m0 m1 w0 w1) ∧ ee (aE d f) (aE d f).length m0 m1 w0 w1
theorem Bt.snoc {d : τ} {l : List T} {f : aj} {m0 m1 w0 w1 : Nat} (h : Bt d l) (hf : d.forms[l.length]? = some f) (hG : di d f) (hp : ee (aE d f) (aE d f).length m0 m1 w0 w1) : Bt d (l ++ [rC (.vec 3 ((aE d f).map aA)) m0 m1 w0 w1]) := by
 have hl := (List.getElem?_eq_some_iff.1 hf).1
 refine ⟨by simp; omega, fun k g hk hg => ?_⟩
 by_cases e : k < l.length
 ·rw [List.getElem?_append_left e]; exact h.2 k g e hg
 ·have e2 : k = l.length := by simp at hk; omega
  subst e2
  rw [hf] at hg
  obtain rfl := Option.some.inj hg
  exact ⟨hG, m0, m1, w0, w1, by simp, hp⟩
theorem uK (d : τ) (hd : d.ok) (hs : ∀ f ∈ d.forms, fO f.pieces ≤ 2000000000000) : af Tryz.prog 10 [aq d] (tM d) := by
 have AO : ∀ f ∈ d.forms, f.ok := hd.2.2.2.2.2.2.2.2.2.2.2.1
 have Rd := Fe d hd
 have nB := Il d hd
 have Gd : (d.forms.map ab).length = d.forms.length := by simp
 refine af.Λ ?_ tM.aL
 refine γ.ο ζ η Tryz.func10 rfl rfl ?_
 refine γ.cD Rd rfl ⟨.refl _, trivial⟩ ?_
 rintro _ ⟨bp, rfl, hp⟩
 refine U (fun c1 => ?_) (fun c1 => ?_)
 ·exact nI (.parts fun h => absurd (hp.2 h) (by simpa using c1))
 have hp := hp.1 (by simpa using c1)
 have yA : d.forms.length ≤ 512 := hp.fl
 refine dW (fun e s' => (e = .exit 0 ∧ ∃ (P : List T), Bt d P ∧ (∀ (k : Nat) g, k < P.length → d.forms[k]? = some g → l_ d g) ∧ P.length = d.forms.length ∧ s' = ⟨[(21, .t (.bool (decide ((P.length : Int) < ((d.forms.map ab).length : Int))))), (1, .ptr 0 0 0 0), (4, .ptr 1 0 0 0), (5, .sl 2 0 0 P.length), (18, .t (.κ 5 (d.forms.map ab))), (19, .t (.int .i64 ((d.forms.map ab).length : Int))), (20, .t (.int .i64 P.length))], [.box (b_ d), .box (b_ d), .arr sx 5 true 0 (.ts P)]⟩) ∨
  (e = .ret ∧ ∃ env H n k, s' = ⟨(3, .t (.int .i64 k)) :: (2, .t (.int .i64 n)) :: env, H⟩ ∧ gi d n k)) (fun Q' hq => ?_) ?_
 ·refine ak (fun P : List T => Bt d P ∧ ∀ (k : Nat) g, k < P.length → d.forms[k]? = some g → l_ d g) (fun P => ⟨[(1, .ptr 0 0 0 0), (4, .ptr 1 0 0 0), (5, .sl 2 0 0 P.length), (18, .t (.κ 5 (d.forms.map ab))), (19, .t (.int .i64 ((d.forms.map ab).length : Int))), (20, .t (.int .i64 P.length))], [.box (b_ d), .box (b_ d), .arr sx 5 true 0 (.ts P)]⟩)
   (fun P => d.forms.length - P.length) [] ⟨⟨Nat.zero_le _, fun k f h => absurd h (Nat.not_lt_zero _)⟩, fun k f h => absurd h (Nat.not_lt_zero _)⟩ ?_ (fun P ⟨hP, Cq⟩ => ?_)
  ·exact a8 ⟨rfl, rfl, rfl, rfl, rfl, rfl, trivial⟩ rfl
  refine U (fun c => ?_) (fun c => ?_)
  ·have c : P.length < d.forms.length := by have := dn c; omega
   obtain ⟨f, hf, lf⟩ := get_some (R := d.forms) (i := P.length) c
   have DL := AO f lf
   refine ξ (show (d.forms.map ab)[((P.length : Nat) : Int).toNat]? = some (ab f) from by rw [Int.toNat_natCast, List.getElem?_map, hf]; rfl) ?_
   refine γ.cD (oP d f hd DL (hs f lf)) rfl ⟨.refl _, .refl _, trivial⟩ ?_
   rintro _ (⟨rfl, Rf⟩ | ⟨m0, m1, w0, w1, rfl, hG, hO⟩)
   ·exact hq _ _ (.inr ⟨rfl, _, _, _, _, rfl, .pattern P.length f hp hf Cq Rf⟩)
   have cT : af Tryz.prog 24 [.κ 5 f.gj, .fn (.func 25) [] [lW d, Cu f]] (aO (∀ x ∈ f.gj, eB d f x)) :=
    uM _ (lW d) (Cu f) f.gj (eB d f) (du DL.2.2.2.2.2.2.1) (DL.2.2.2.2.2.2.2) fun x hx => BO d f (DL.2.2.2.2.2.2.2 x hx)
   refine Or.inl (And.intro (by simp [Sq.length]) (ε (NU (n := P.length + 1) (by omega)) ?_))
   refine γ.vH cT rfl ⟨.refl _, .refl _, trivial⟩ aO.flat ?_
   rintro _ ⟨ba, rfl, pE⟩
   refine U (fun c2 => ?_) (fun c2 => ?_)
   ·exact hq _ _ (.inr ⟨rfl, _, _, _, _, rfl, .OY P.length f hp hf Cq hG fun h => absurd (pE.2 h) (by simpa using c2)⟩)
   have hE := pE.1 (by simpa using c2)
   obtain ⟨z, hz⟩ : ∃ z, z = rC (.vec 3 ((aE d f).map aA)) m0 m1 w0 w1 := ⟨_, rfl⟩
   have eN : P.length + 1 = (P ++ [z]).length := by simp
   refine δ (n := ((P.length + 1 : Nat) : Int)) (ag (n := P.length + 1) (by omega)) ?_
   conv => whnf
   exact ⟨⟨P ++ [z], by rw [hz]; exact hP.snoc hf hG hO, fun k g hk hg => by
    by_cases e : k < P.length
    ·exact Cq k g e hg
    ·have e2 : k = P.length := by rw [← eN] at hk; omega
     subst e2
     rw [hf] at hg; cases hg
     exact ⟨hG, hE⟩⟩, π [0, 1, 2] rfl ⟨rfl, rfl, (show some (AV.sl 2 0 0 (P.length + 1)) = some (AV.sl 2 0 0 (P ++ [z]).length) from by rw [eN]), rfl, rfl, (show some (AV.t (.int .i64 ((P.length + 1 : Nat) : Int))) = some (AV.t (.int .i64 (((P ++ [z]).length : Nat) : Int))) from by rw [eN]), trivial⟩ ⟨rfl, rfl, (show some (Ψ.arr sx 5 true 0 (.ts (P ++ [rC (.vec 3 ((aE d f).map aA)) m0 m1 w0 w1]))) = some (Ψ.arr sx 5 true 0 (.ts (P ++ [z]))) from by rw [hz]), trivial⟩, by show d.forms.length - (P ++ [z]).length < d.forms.length - P.length; rw [← eN]; omega⟩
  ·have c : P.length = d.forms.length := by have := dE c; have := hP.1; omega
   exact hq _ _ (.inl ⟨rfl, P, hP, Cq, c, rfl⟩)
 rintro _ _ (⟨rfl, P, hP, Cq, Tw, rfl⟩ | ⟨rfl, env, H, n, k, rfl, hk⟩)
 rotate_left 1
 ·exact nI hk
 have NC : ∀ (k : Nat) g, d.forms[k]? = some g → l_ d g := fun k g hg => Cq k g (by have := (List.getElem?_eq_some_iff.1 hg).1; omega) hg
 refine dW (fun e s' => (e = .exit 2 ∧ (∀ (i j : Nat) f g, i < j → d.forms[i]? = some f → d.forms[j]? = some g → iG d f g) ∧ ∃ b env, s' = ⟨(47, b) :: (4, .ptr 1 0 0 0) :: env, [.box (b_ d), .box (b_ d), .arr sx 5 true 0 (.ts P)]⟩) ∨
  (e = .ret ∧ ∃ env H n k, s' = ⟨(3, .t (.int .i64 k)) :: (2, .t (.int .i64 n)) :: env, H⟩ ∧ gi d n k)) (fun Q' hq => ?_) ?_
 ·refine ak (fun j : Nat => j ≤ d.forms.length ∧ ∀ (i' j' : Nat) f g, i' < j' → j' < j → d.forms[i']? = some f → d.forms[j']? = some g → iG d f g) (fun j => ⟨[(4, .ptr 1 0 0 0), (1, .ptr 0 0 0 0), (5, .sl 2 0 0 P.length), (44, .t (.κ 5 (d.forms.map ab))), (45, .t (.int .i64 ((d.forms.map ab).length : Int))), (46, .t (.int .i64 j))], [.box (b_ d), .box (b_ d), .arr sx 5 true 0 (.ts P)]⟩)
   (fun j => d.forms.length - j) 0 ⟨Nat.zero_le _, fun _ _ _ _ _ h => absurd h (Nat.not_lt_zero _)⟩ ?_ (fun j ⟨hj, hA⟩ => ?_)
  ·exact a8 ⟨rfl, rfl, rfl, rfl, rfl, rfl, trivial⟩ rfl
  refine U (fun c => ?_) (fun c => ?_)
  ·have c : j < d.forms.length := by have := dn c; omega
   obtain ⟨g, hg, yz⟩ := get_some (R := d.forms) (i := j) c
   obtain ⟨Nh, b0, b1, v0, v1, Rp, Ng⟩ := hP.2 j g (by omega) hg
   refine ξ (show (d.forms.map ab)[((j : Nat) : Int).toNat]? = some (ab g) from by rw [Int.toNat_natCast, List.getElem?_map, hg]; rfl) ?_
   refine dW (fun e s' => (e = .exit 4 ∧ (∀ (i' : Nat) f, i' < j → d.forms[i']? = some f → iG d f g) ∧ ∃ i : Nat, s' = ⟨[(53, .t (.bool (decide ((i : Int) < (j : Int))))), (4, .ptr 1 0 0 0), (1, .ptr 0 0 0 0), (5, .sl 2 0 0 P.length), (44, .t (.κ 5 (d.forms.map ab))), (45, .t (.int .i64 ((d.forms.map ab).length : Int))), (46, .t (.int .i64 j)), (9, .t (.int .i64 j)), (10, .ptr 3 0 0 0), (51, .t (.int .i64 j)), (52, .t (.int .i64 i))], [.box (b_ d), .box (b_ d), .arr sx 5 true 0 (.ts P), .box (eO g)]⟩) ∨
    (e = .ret ∧ ∃ env H n k, s' = ⟨(3, .t (.int .i64 k)) :: (2, .t (.int .i64 n)) :: env, H⟩ ∧ gi d n k)) (fun Q2 yv => ?_) ?_
   ·refine ak (fun i : Nat => i ≤ j ∧ ∀ (i' : Nat) f, i' < i → d.forms[i']? = some f → iG d f g) (fun i => ⟨[(4, .ptr 1 0 0 0), (1, .ptr 0 0 0 0), (5, .sl 2 0 0 P.length), (44, .t (.κ 5 (d.forms.map ab))), (45, .t (.int .i64 ((d.forms.map ab).length : Int))), (46, .t (.int .i64 j)), (9, .t (.int .i64 j)), (10, .ptr 3 0 0 0), (51, .t (.int .i64 j)), (52, .t (.int .i64 i))], [.box (b_ d), .box (b_ d), .arr sx 5 true 0 (.ts P), .box (eO g)]⟩)
     (fun i => j - i) 0 ⟨Nat.zero_le _, fun _ _ h => absurd h (Nat.not_lt_zero _)⟩ ?_ (fun i ⟨hi, hI⟩ => ?_)
    ·exact a8 ⟨rfl, rfl, rfl, rfl, rfl, rfl, rfl, rfl, rfl, rfl, trivial⟩ rfl
    refine U (fun c3 => ?_) (fun c3 => ?_)
    ·have c3 : i < j := by have := of_decide_eq_true c3; omega
     obtain ⟨f, hf, lf⟩ := get_some (R := d.forms) (i := i) (by omega)
     obtain ⟨Nm, a0, a1, u0, u1, Rt, Nl⟩ := hP.2 i f (by omega) hf
     refine υ It (by decide +kernel) ?_
     refine ξ (show (d.forms.map ab)[((i : Nat) : Int).toNat]? = some (ab f) from by rw [Int.toNat_natCast, List.getElem?_map, hf]; rfl) ?_
     refine ε (mD rfl (by omega)) ?_
     refine ξ (show P[0 + i]? = _ from by rw [Nat.zero_add]; exact Rt) ?_
     refine ε (mD rfl (by omega)) ?_
     refine ξ (show P[0 + j]? = _ from by rw [Nat.zero_add]; exact Rp) ?_
     refine γ.cD (yU d f g hd Nm Nh Nl Ng) rfl ⟨.refl _, .refl _, .refl _, .refl _, .refl _, trivial⟩ ?_
     rintro _ ⟨ba, rfl, pa⟩
     refine And.intro (fun j hj => by first | (cases hj; done) | exact ψ.append _ _ _ | exact ψ.refl _ _) ?_
     refine U (fun c4 => ?_) (fun c4 => ?_)
     ·exact yv _ _ (.inr ⟨rfl, _, _, _, _, rfl, .Kz i j f g hp NC c3 hf hg hA fun h => absurd (pa.2 h) (by simpa using c4)⟩)
     have pa := pa.1 (by simpa using c4)
     refine δ (n := ((i + 1 : Nat) : Int)) (ag (n := i + 1) (by omega)) ?_
     conv => whnf
     exact ⟨⟨i + 1, c3, fun i' f' h' yB => by
      by_cases e : i' = i
      ·subst e
       rw [hf] at yB
       obtain rfl := Option.some.inj yB
       exact pa
      ·exact hI i' f' (by omega) yB⟩, π [0, 1, 2, 3] rfl ⟨rfl, rfl, rfl, rfl, rfl, rfl, rfl, rfl, rfl, rfl, trivial⟩ ⟨rfl, rfl, rfl, rfl, trivial⟩, by show j - (i + 1) < j - i; omega⟩
    ·have c3 : i = j := by have := of_decide_eq_false c3; omega
     exact yv _ _ (.inl ⟨rfl, fun i' f' h' => hI i' f' (by omega), i, rfl⟩)
   rintro _ _ (⟨rfl, hI, i, rfl⟩ | ⟨rfl, env, H, n, k, rfl, hk⟩)
   ·refine δ (n := ((j + 1 : Nat) : Int)) (ag (n := j + 1) (by omega)) ?_
    conv => whnf
    exact ⟨⟨j + 1, c, fun i' j' f' g' h1 h2 yB dP => by
     by_cases e : j' = j
     ·subst e
      rw [hg] at dP
      obtain rfl := Option.some.inj dP
      exact hI i' f' h1 yB
     ·exact hA i' j' f' g' h1 (by omega) yB dP⟩, π [0, 1, 2] rfl ⟨rfl, rfl, rfl, rfl, rfl, rfl, trivial⟩ ⟨rfl, rfl, rfl, trivial⟩, by show d.forms.length - (j + 1) < d.forms.length - j; omega⟩
   ·exact hq _ _ (.inr ⟨rfl, _, _, _, _, rfl, hk⟩)
  ·have c : j = d.forms.length := by have := dE c; omega
   exact hq _ _ (.inl ⟨rfl, fun i' j' f' g' h1 yB dP => hA i' j' f' g' h1 (by have := (List.getElem?_eq_some_iff.1 dP).1; omega) yB dP, _, _, rfl⟩)
 rintro _ _ (⟨rfl, hA, b0, env, rfl⟩ | ⟨rfl, env, H, n, k, rfl, hk⟩)
 rotate_left 1
 ·exact nI hk
 refine γ.cD nB rfl ⟨.refl _, trivial⟩ ?_
 rintro _ ⟨br, rfl, pr⟩
 refine U (fun c5 => ?_) (fun c5 => ?_)
 ·exact nI (.rest hp NC hA fun h => absurd (pr.2 h) (by simpa using c5))
 ·have hm : ∀ f ∈ d.forms, l_ d f := fun f hf => by
   obtain ⟨k, hk⟩ := List.getElem?_of_mem hf
   exact NC k f hk
  exact nI (.ok ⟨hp, fun f hf => (hm f hf).1, hA, fun f hf => (hm f hf).2, pr.1 (by simpa using c5)⟩)
end Go.Proofs.YtcogcbplmkcojaaGreatDoor
