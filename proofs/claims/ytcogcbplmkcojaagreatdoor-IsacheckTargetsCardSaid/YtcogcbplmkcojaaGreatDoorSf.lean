/-
  The small description of layer 5's statements is right (walks).
-/
import Derived.Test.YtcogcbplmkcojaaGreatDoorSA
import Derived.Test.YtcogcbplmkcojaaGreatDoorHv
namespace Go.Proofs.YtcogcbplmkcojaaGreatDoor
open Go.IntWalk
set_option maxRecDepth 100000
set_option linter.unusedVariables false
set_option linter.unusedSimpArgs false
set_option maxHeartbeats 1000000
def IF : Ord := (.op 0 [] (.op 1 [] (.op 2 [1, 0] (.op 3 [] (.op 4 [] (.op 5 [4, 3, 2, 1, 0] (.op 6 [4, 3, 2, 1, 0] (.op 7 [6, 5, 4, 3, 2, 1, 0] (.op 8 [4, 3, 2, 1, 0] (.op 9 [4, 3, 2, 1, 0] (.op 10 [9, 8, 7, 6, 5, 4, 3, 2, 1, 0] (.op 11 [10, 9, 8, 7, 6, 5, 4, 3, 2, 1, 0] (.op 12 [9, 8, 7, 6, 5] (.op 13 [] .nil))))))))))))))
def IE : Ord := (.op 0 [] (.op 1 [0] (.op 3 [1, 0] (.op 4 [3, 1, 0] (.op 6 [4, 3, 1, 0] (.op 7 [6, 4, 3, 1, 0] (.op 2 [7, 6, 4, 3] (.op 5 [7, 6] (.op 8 [] (.op 9 [] .nil))))))))))
theorem D2 (d : τ) (i : Int) : φ Tryz.prog 19 [aq d, .int .i64 i, .int .i64 i] (.t (.bool false)) := by
 refine φ.Λ ?_ rfl
 refine γ.ο ζ η Tryz.func19 rfl rfl ?_
 refine U (fun _ => ?_) (fun c => absurd ((beq_self_eq_true i).symm.trans c) (by decide))
 exact And.intro rfl rfl
theorem D3 (d : τ) (hd : d.ok) (i j : Nat) (f g : aj) (hi : d.forms[i]? = some f) (hj : d.forms[j]? = some g) (Gm : i ≠ j) (hs : ∀ f ∈ d.forms, fO f.pieces ≤ 2000000000000) (de : j9 d) : af Tryz.prog 19 [aq d, .int .i64 i, .int .i64 j] (aO (iG d f g)) := by
 have lf := List.mem_of_getElem? hi
 have yz := List.mem_of_getElem? hj
 have hf : f.ok := hd.2.2.2.2.2.2.2.2.2.2.2.1 f lf
 have hg : g.ok := hd.2.2.2.2.2.2.2.2.2.2.2.1 g yz
 have wm := (List.getElem?_eq_some_iff.1 hi).1
 have fy := (List.getElem?_eq_some_iff.1 hj).1
 refine af.Λ ?_ aO.aL
 refine γ.ο ζ η Tryz.func19 rfl rfl ?_
 refine U (fun c => absurd (eq_of_beq c) (by omega)) (fun c => ?_)
 refine γ.pure (bQ _ _) rfl ?_
 refine U (fun c => ?_) (fun _ => ?_)
 ·exact absurd ⟨by omega, by omega⟩ (lZ (pU c))
 refine γ.pure (bQ _ _) rfl ?_
 refine U (fun c => ?_) (fun _ => ?_)
 ·exact absurd ⟨by omega, by omega⟩ (lZ (pU c))
 refine ax (dB 2 [5, 6, 7, 8, 9]) IF (by decide +kernel) ?_
 refine ξ (show (d.forms.map ab)[((i : Nat) : Int).toNat]? = some (ab f) from by rw [Int.toNat_natCast, List.getElem?_map, hi]; rfl) ?_
 refine ξ (show (d.forms.map ab)[((j : Nat) : Int).toNat]? = some (ab g) from by rw [Int.toNat_natCast, List.getElem?_map, hj]; rfl) ?_
 refine And.intro (fun j hj => by simp only [List.mem_cons, List.not_mem_nil, or_false] at hj; rcases hj with rfl | rfl | rfl | rfl | rfl <;> exact ψ.set (b := 2) _ (List.mem_singleton.2 rfl)) ?_
 refine And.intro (fun j hj => by cases hj) ?_
 refine υ IE (by decide +kernel) ?_
 refine γ.cD (oP d f hd hf (hs f lf)) rfl ⟨.refl _, .refl _, trivial⟩ ?_
 rintro _ (⟨rfl, hn⟩ | ⟨a0, a1, u0, u1, rfl, Nm, Nl⟩)
 ·exact absurd (de.forms f lf) hn
 refine And.intro (fun j hj => by first | (cases hj; done) | exact ψ.append _ _ _ | exact ψ.refl _ _) ?_
 refine γ.cD (oP d g hd hg (hs g yz)) rfl ⟨.refl _, .refl _, trivial⟩ ?_
 rintro _ (⟨rfl, hn⟩ | ⟨b0, b1, v0, v1, rfl, Nh, Ng⟩)
 ·exact absurd (de.forms g yz) hn
 refine And.intro (fun j hj => by first | (cases hj; done) | exact ψ.append _ _ _ | exact ψ.refl _ _) ?_
 refine And.intro (fun j hj => by cases hj) ?_
 refine And.intro (fun j hj => by cases hj) ?_
 refine γ.cD (yU d f g hd Nm Nh Nl Ng) rfl ⟨.refl _, .refl _, .refl _, .refl _, .refl _, trivial⟩ ?_
 rintro _ ⟨b, rfl, hb⟩
 exact aU hb
noncomputable def vD : List UInt8 := (JS Tryz.f17).headD []
noncomputable def oL : τ := match lA vD with | some d => d | none => ⟨[], 0, [], [], [], [], [], [], [], [], [], [], []⟩
theorem EL : lA vD = some oL := by
 have h : (match lA vD with | some _ => true | none => false) = true := by decide +kernel
 unfold oL
 cases e : lA vD with
 | some d => rfl
 | none => rw [e] at h; cases h
theorem L9 : oL.ok ∧ j9 oL ∧ (∀ f ∈ oL.forms, fO f.pieces ≤ 2000000000000) ∧ 2 ≤ oL.forms.length := CG (by decide +kernel)
theorem H4 : ∀ f, oL.forms[0]? = some f → (bN f.pieces).length / 8 = 1 := by
 have h : (match oL.forms[0]? with | some f => Nat.beq ((bN f.pieces).length / 8) 1 | none => false) = true := by decide +kernel
 intro f hf
 rw [hf] at h
 exact Nat.eq_of_beq_eq_true h
theorem H5 : φ Tryz.prog 17 [] (.t (aq oL)) := by
 have h := qh EL
 generalize oL = d at h
 refine φ.Λ ?_ rfl
 refine γ.ο ζ η Tryz.func17 rfl rfl ?_
 refine γ.pure h rfl ?_
 exact And.intro rfl rfl
theorem nz : φ Tryz.prog 8 [] (.t (.bool true)) := by
 obtain ⟨hd, de, hs, h2⟩ := L9
 have bH := H4
 have ht := H5
 generalize oL = d at hd de hs h2 bH ht
 obtain ⟨f, hf, lf⟩ := get_some (R := d.forms) (i := 0) (by omega)
 obtain ⟨g, hg, yz⟩ := get_some (R := d.forms) (i := 1) (by omega)
 have hS := EY d hd 0 f hf (hs f lf) (de.forms f lf)
 rw [bH f hf] at hS
 refine φ.Λ ?_ rfl
 refine γ.ο ζ η Tryz.func8 rfl rfl ?_
 refine γ.pure ht rfl ?_
 refine γ.g_ (uK d hd hs) rfl ?_
 rintro _ ⟨n, e, rfl, hv⟩
 obtain ⟨rfl, rfl⟩ := hv.JU de
 refine γ.pure ht rfl ?_
 refine γ.pure hS rfl ?_
 refine γ.pure ht rfl ?_
 refine γ.g_ (D3 d hd 0 1 f g hf hg (by decide) hs de) rfl ?_
 rintro _ ⟨b, rfl, hb⟩
 obtain rfl := hb.2 (de.apart 0 1 f g (by decide) hf hg)
 refine γ.pure ht rfl ?_
 refine γ.pure (D2 d 0) rfl ?_
 exact And.intro rfl rfl
end Go.Proofs.YtcogcbplmkcojaaGreatDoor
