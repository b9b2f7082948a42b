/-
  Aliases, classes, parts of a description.
-/
import Derived.Test.YtcogcbplmkcojaaGreatDoorHa
namespace Go.Proofs.YtcogcbplmkcojaaGreatDoor
open Go.IntWalk
set_option maxRecDepth 100000
set_option linter.unusedVariables false
set_option linter.unusedSimpArgs false
set_option maxHeartbeats 1000000
def IC : Ord := (.op 0 [] (.op 1 [] (.op 2 [1, 0] (.op 3 [1, 0] (.op 4 [1, 0] (.op 5 [1, 0] (.op 6 [] (.op 7 [] (.op 8 [] (.op 9 [] (.op 10 [9, 8] (.op 11 [9, 8] (.op 12 [9, 8] (.op 13 [12, 11, 10, 9, 8] (.op 14 [12, 11, 10, 9, 8] (.op 15 [9, 8] (.op 16 [9, 8] (.op 17 [9, 8] (.op 18 [] (.op 19 [] (.op 20 [] .nil)))))))))))))))))))))
def IB : Ord := (.op 0 [] (.op 1 [] (.op 2 [1, 0] (.op 3 [1, 0] (.op 4 [1, 0] (.op 5 [1, 0] (.op 6 [] (.op 7 [] (.op 8 [] (.op 9 [] (.op 10 [] (.op 11 [10, 9, 8] (.op 12 [10, 9, 8] (.op 13 [] (.op 14 [] (.op 15 [] (.op 16 [] (.op 17 [] (.op 18 [] (.op 19 [] (.op 20 [] (.op 21 [] (.op 22 [] (.op 23 [] (.op 24 [] (.op 25 [] (.op 26 [] (.op 27 [] (.op 28 [] (.op 29 [] (.op 30 [] (.op 31 [] (.op 32 [] (.op 33 [] (.op 34 [] (.op 35 [] (.op 36 [] (.op 37 [] (.op 38 [] (.op 39 [] (.op 40 [] (.op 41 [] (.op 42 [] (.op 43 [] (.op 44 [] (.op 45 [44, 43] (.op 46 [44, 43] (.op 47 [44, 43] (.op 48 [] (.op 49 [] (.op 50 [49, 48, 47, 46, 45, 44, 43] (.op 51 [49, 48, 47, 46, 45, 44, 43] (.op 52 [49, 48, 47, 46, 45, 44, 43] (.op 53 [52, 51, 50, 49, 48, 47, 46, 45, 44, 43] (.op 54 [52, 51, 50, 49, 48, 47, 46, 45, 44, 43] (.op 55 [49, 48, 47, 46, 45, 44, 43] (.op 56 [49, 48, 47, 46, 45, 44, 43] (.op 57 [49, 48, 47, 46, 45, 44, 43] (.op 58 [] (.op 59 [] (.op 60 [] .nil)))))))))))))))))))))))))))))))))))))))))))))))))))))))))))))
theorem vU {P : Prop} {H : AH} : ∃ r, nW P r ∧ j8 r (.t (.bool false)) H := ⟨_, ⟨false, rfl, fun h => by cases h⟩, _, _, rfl, .refl _⟩
theorem KJ {P : Prop} {H : AH} {b : Bool} (h : b = true → P) : ∃ r, nW P r ∧ j8 r (.t (.bool b)) H := ⟨_, ⟨b, rfl, h⟩, _, _, rfl, .refl _⟩
theorem af.yes {f : FuncId} {ts : List T} {P : Prop} (h : af Tryz.prog f ts (aO P)) : af Tryz.prog f ts (nW P) := h.weaken (fun r ⟨b, e, hb⟩ => ⟨b, e, hb.1⟩) nW.aL
theorem pw {α : Type} {l : List α} {i : Int} {a : α} (h : cV l i = some a) : 0 ≤ i ∧ i < l.length := by
 by_cases h0 : 0 ≤ i ∧ i < l.length
 ·exact h0
 ·rw [iD h0] at h; cases h
def oG (d : τ) (x : dw) : Prop := ∃ fl, cV d.files x.file = some fl ∧ 0 ≤ x.num ∧ x.num < fl.count
theorem Hy (d : τ) (x : dw) : af Tryz.prog 65 [aq d, bl x] (aO (oG d x)) := by
 refine af.Λ ?_ aO.aL
 refine γ.ο ζ η Tryz.func65 rfl rfl ?_
 refine υ IC (by decide +kernel) ?_
 refine γ.pure (bQ _ _) rfl ?_
 refine And.intro (fun j hj => by first | (cases hj; done) | exact ψ.append _ _ _ | exact ψ.refl _ _) ?_
 refine U (fun c => ?_) (fun c => ?_)
 ·have h := oh c
  obtain ⟨f, AT, _, hf⟩ := cN h
  refine ε (gn rfl h.1) ?_
  refine ξ (bW hf) ?_
  refine γ.pure (bQ _ _) rfl ?_
  refine And.intro (fun j hj => by first | (cases hj; done) | exact ψ.append _ _ _ | exact ψ.refl _ _) ?_
  refine And.intro (fun j hj => by first | (cases hj; done) | exact ψ.append _ _ _ | exact ψ.refl _ _) ?_
  refine aU ⟨fun e => ⟨f, AT, by simpa using e⟩, fun ⟨f', h1, h2⟩ => ?_⟩
  rw [AT] at h1
  cases h1
  simpa using h2
 ·refine And.intro (fun j hj => by first | (cases hj; done) | exact ψ.append _ _ _ | exact ψ.refl _ _) ?_
  refine And.intro (fun j hj => by first | (cases hj; done) | exact ψ.append _ _ _ | exact ψ.refl _ _) ?_
  exact ae fun ⟨f, h1, _⟩ => lZ c (by have := pw h1; exact ⟨this.1, by simpa using this.2⟩)
def iF (d : τ) (k : dN) : Prop :=
 (k.kind = 1 ∧ (1 ≤ k.bits ∧ k.bits ≤ 6) ∧ k.shift = 0 ∧ 0 ≤ k.plus ∧ k.plus < 64 ∧ ∃ fl, cV d.files k.file = some fl ∧ fl.mH ∧ k.plus + 2 ^ k.bits.toNat - 1 < fl.count) ∨
 (k.kind = 2 ∧ (1 ≤ k.bits ∧ k.bits ≤ 62) ∧ (0 ≤ k.shift ∧ k.shift ≤ 62 - k.bits) ∧ k.plus = 0) ∨
 ((k.kind = 3 ∨ k.kind = 4 ∨ k.kind = 5) ∧ (1 ≤ k.bits ∧ k.bits ≤ 64) ∧ (0 ≤ k.shift ∧ k.shift ≤ 64 - k.bits) ∧ k.plus = 0)
theorem yN (d : τ) (k : dN) : af Tryz.prog 67 [aq d, aV k] (aO (iF d k)) := by
 refine af.Λ ?_ aO.aL
 refine γ.ο ζ η Tryz.func67 rfl rfl ?_
 refine U (fun c => ?_) (fun c1 => ?_)
 ·have k1 : k.kind = 1 := by simpa using c
  refine υ IB (by decide +kernel) ?_
  refine γ.pure (bQ _ _) rfl ?_
  refine And.intro (fun j hj => by first | (cases hj; done) | exact ψ.append _ _ _ | exact ψ.refl _ _) ?_
  refine U (fun c => ?_) (fun c => ?_)
  ·have h := oh c
   obtain ⟨f, Nw, _, hf⟩ := cN h
   refine ε (gn rfl h.1) ?_
   refine ξ (bW hf) ?_
   refine γ.pure (tw f) rfl ?_
   refine And.intro (fun j hj => by first | (cases hj; done) | exact ψ.append _ _ _ | exact ψ.refl _ _) ?_
   refine U (fun cf => ?_) (fun nf => ?_)
   rotate_left 1
   ·refine And.intro (fun j hj => by first | (cases hj; done) | exact ψ.append _ _ _ | exact ψ.refl _ _) ?_
    exact ae (by
     have h0 : ¬ f.mH := of_decide_eq_false nf
     rintro (⟨_, _, _, _, _, fl, h1, h2, _⟩ | h | h)
     ·rw [Nw] at h1; cases h1; exact h0 h2
     ·omega
     ·omega)
   refine U (fun b1 => ?_) (fun nn => ?_)
   rotate_left 1
   ·refine And.intro (fun j hj => by first | (cases hj; done) | exact ψ.append _ _ _ | exact ψ.refl _ _) ?_
    exact ae (by simp at nn; rintro (h | h | h) <;> omega)
   have b1 : 1 ≤ k.bits := by simpa using b1
   refine U (fun b2 => ?_) (fun nn => ?_)
   rotate_left 1
   ·refine And.intro (fun j hj => by first | (cases hj; done) | exact ψ.append _ _ _ | exact ψ.refl _ _) ?_
    exact ae (by simp at nn; rintro (h | h | h) <;> omega)
   have b2 : k.bits ≤ 6 := by simpa using b2
   refine U (fun s0 => ?_) (fun nn => ?_)
   rotate_left 1
   ·refine And.intro (fun j hj => by first | (cases hj; done) | exact ψ.append _ _ _ | exact ψ.refl _ _) ?_
    exact ae (by simp at nn; rintro (h | h | h) <;> omega)
   have s0 : k.shift = 0 := by simpa using s0
   refine U (fun p0 => ?_) (fun nn => ?_)
   rotate_left 1
   ·refine And.intro (fun j hj => by first | (cases hj; done) | exact ψ.append _ _ _ | exact ψ.refl _ _) ?_
    exact ae (by simp at nn; rintro (h | h | h) <;> omega)
   have p0 : 0 ≤ k.plus := by simpa using p0
   refine U (fun p1 => ?_) (fun nn => ?_)
   rotate_left 1
   ·refine And.intro (fun j hj => by first | (cases hj; done) | exact ψ.append _ _ _ | exact ψ.refl _ _) ?_
    exact ae (by simp at nn; rintro (h | h | h) <;> omega)
   have p1 : k.plus < 64 := by simpa using p1
   have Rc : 2 ^ k.bits.toNat ≤ 2 ^ 6 := Nat.pow_le_pow_right (by decide) (by omega)
   have AG : ((2 ^ k.bits.toNat : Nat) : Int) = 2 ^ k.bits.toNat := by rw [Int.natCast_pow]; rfl
   obtain ⟨g1, qO⟩ : ∃ g : Nat, g = 2 ^ k.bits.toNat := ⟨_, rfl⟩
   rw [← qO] at Rc AG
   refine ε (decide_eq_true (show (0 : Int) ≤ k.bits by omega)) ?_
   refine δ (n := (g1 : Int)) (show IntKind.i64.wrap (1 * 2 ^ (min (Int.toNat k.bits) IntKind.i64.bits)) = (g1 : Int) from by
    rw [Nat.min_eq_left (show k.bits.toNat ≤ IntKind.i64.bits by show _ ≤ 64; omega), ← AG, IntKind.wrap_i64]; omega) ?_
   obtain ⟨g2, kg⟩ : ∃ g, g = k.plus + (g1 : Int) := ⟨_, rfl⟩
   obtain ⟨g3, Tr⟩ : ∃ g, g = g2 - 1 := ⟨_, rfl⟩
   refine δ (n := g2) (by rw [IntKind.wrap_i64]; omega) ?_
   refine δ (n := g3) (by rw [IntKind.wrap_i64]; omega) ?_
   refine ε (gn rfl h.1) ?_
   refine ξ (bW hf) ?_
   refine And.intro (fun j hj => by first | (cases hj; done) | exact ψ.append _ _ _ | exact ψ.refl _ _) ?_
   exact aU ⟨fun hc => .inl ⟨k1, ⟨b1, b2⟩, s0, p0, p1, f, Nw, of_decide_eq_true cf, by have := of_decide_eq_true hc; rw [← AG]; omega⟩, fun hk => by
    rcases hk with ⟨_, _, _, _, _, fl, h1, _, h3⟩ | h | h
    ·rw [Nw] at h1; cases h1; rw [← AG] at h3; exact decide_eq_true (by omega)
    ·omega
    ·omega⟩
  ·refine And.intro (fun j hj => by first | (cases hj; done) | exact ψ.append _ _ _ | exact ψ.refl _ _) ?_
   refine And.intro (fun j hj => by first | (cases hj; done) | exact ψ.append _ _ _ | exact ψ.refl _ _) ?_
   exact ae (by
    have h0 := lZ c
    rintro (⟨_, _, _, _, _, fl, h1, _⟩ | h | h)
    ·exact h0 (pw h1)
    ·omega
    ·omega)
 have n1 : ¬ k.kind = 1 := by simpa using c1
 refine U (fun c => ?_) (fun m2 => ?_)
 ·have k2 : k.kind = 2 := by simpa using c
  refine U (fun b1 => ?_) (fun nn => ?_)
  rotate_left 1
  ·exact ae (by simp at nn; rintro (h | h | h) <;> omega)
  have b1 : 1 ≤ k.bits := by simpa using b1
  refine U (fun b2 => ?_) (fun nn => ?_)
  rotate_left 1
  ·exact ae (by simp at nn; rintro (h | h | h) <;> omega)
  have b2 : k.bits ≤ 62 := by simpa using b2
  refine U (fun s0 => ?_) (fun nn => ?_)
  rotate_left 1
  ·exact ae (by simp at nn; rintro (h | h | h) <;> omega)
  have s0 : 0 ≤ k.shift := by simpa using s0
  refine δ (n := 62 - k.bits) (gh (by omega) (by omega)) ?_
  refine U (fun s1 => ?_) (fun nn => ?_)
  rotate_left 1
  ·exact ae (by simp at nn; rintro (h | h | h) <;> omega)
  have s1 : k.shift ≤ 62 - k.bits := by simpa using s1
  exact aU ⟨fun h => .inr (.inl ⟨k2, ⟨b1, b2⟩, ⟨s0, s1⟩, by simpa using h⟩), fun hk => by simpa using (show k.plus = 0 by rcases hk with h | h | h <;> omega)⟩
 refine U (fun c => ?_) (fun m3 => ?_)
 ·have k3 : k.kind = 3 ∨ k.kind = 4 ∨ k.kind = 5 := .inl (by simpa using c)
  refine U (fun _ => ?_) (fun c' => absurd (c.symm.trans c') (by decide))
  refine U (fun b1 => ?_) (fun nn => ?_)
  rotate_left 1
  ·exact ae (by simp at nn; rintro (h | h | h) <;> omega)
  have b1 : 1 ≤ k.bits := by simpa using b1
  refine U (fun b2 => ?_) (fun nn => ?_)
  rotate_left 1
  ·exact ae (by simp at nn; rintro (h | h | h) <;> omega)
  have b2 : k.bits ≤ 64 := by simpa using b2
  refine U (fun s0 => ?_) (fun nn => ?_)
  rotate_left 1
  ·exact ae (by simp at nn; rintro (h | h | h) <;> omega)
  have s0 : 0 ≤ k.shift := by simpa using s0
  refine δ (n := 64 - k.bits) (gh (by omega) (by omega)) ?_
  refine U (fun s1 => ?_) (fun nn => ?_)
  rotate_left 1
  ·exact ae (by simp at nn; rintro (h | h | h) <;> omega)
  have s1 : k.shift ≤ 64 - k.bits := by simpa using s1
  exact aU ⟨fun h => .inr (.inr ⟨k3, ⟨b1, b2⟩, ⟨s0, s1⟩, by simpa using h⟩), fun hk => by simpa using (show k.plus = 0 by rcases hk with h | h | h <;> omega)⟩
 refine U (fun c => ?_) (fun m4 => ?_)
 ·have k3 : k.kind = 3 ∨ k.kind = 4 ∨ k.kind = 5 := .inr (.inl (by simpa using c))
  refine U (fun _ => ?_) (fun c' => absurd (c.symm.trans c') (by decide))
  refine U (fun b1 => ?_) (fun nn => ?_)
  rotate_left 1
  ·exact ae (by simp at nn; rintro (h | h | h) <;> omega)
  have b1 : 1 ≤ k.bits := by simpa using b1
  refine U (fun b2 => ?_) (fun nn => ?_)
  rotate_left 1
  ·exact ae (by simp at nn; rintro (h | h | h) <;> omega)
  have b2 : k.bits ≤ 64 := by simpa using b2
  refine U (fun s0 => ?_) (fun nn => ?_)
  rotate_left 1
  ·exact ae (by simp at nn; rintro (h | h | h) <;> omega)
  have s0 : 0 ≤ k.shift := by simpa using s0
  refine δ (n := 64 - k.bits) (gh (by omega) (by omega)) ?_
  refine U (fun s1 => ?_) (fun nn => ?_)
  rotate_left 1
  ·exact ae (by simp at nn; rintro (h | h | h) <;> omega)
  have s1 : k.shift ≤ 64 - k.bits := by simpa using s1
  exact aU ⟨fun h => .inr (.inr ⟨k3, ⟨b1, b2⟩, ⟨s0, s1⟩, by simpa using h⟩), fun hk => by simpa using (show k.plus = 0 by rcases hk with h | h | h <;> omega)⟩
 refine U (fun c => ?_) (fun m5 => ?_)
 ·have k3 : k.kind = 3 ∨ k.kind = 4 ∨ k.kind = 5 := .inr (.inr (by simpa using c))
  refine U (fun b1 => ?_) (fun nn => ?_)
  rotate_left 1
  ·exact ae (by simp at nn; rintro (h | h | h) <;> omega)
  have b1 : 1 ≤ k.bits := by simpa using b1
  refine U (fun b2 => ?_) (fun nn => ?_)
  rotate_left 1
  ·exact ae (by simp at nn; rintro (h | h | h) <;> omega)
  have b2 : k.bits ≤ 64 := by simpa using b2
  refine U (fun s0 => ?_) (fun nn => ?_)
  rotate_left 1
  ·exact ae (by simp at nn; rintro (h | h | h) <;> omega)
  have s0 : 0 ≤ k.shift := by simpa using s0
  refine δ (n := 64 - k.bits) (gh (by omega) (by omega)) ?_
  refine U (fun s1 => ?_) (fun nn => ?_)
  rotate_left 1
  ·exact ae (by simp at nn; rintro (h | h | h) <;> omega)
  have s1 : k.shift ≤ 64 - k.bits := by simpa using s1
  exact aU ⟨fun h => .inr (.inr ⟨k3, ⟨b1, b2⟩, ⟨s0, s1⟩, by simpa using h⟩), fun hk => by simpa using (show k.plus = 0 by rcases hk with h | h | h <;> omega)⟩
 exact ae (by simp at m2 m3 m4 m5; rintro (h | h | h) <;> omega)
structure li (d : τ) : Prop where
 order : d.order = 1 ∨ d.order = 2
 fi : d.files.length ≤ 8
 fg : d.flags.length ≤ 16
 cl : d.classes.length ≤ 64
 fl : d.forms.length ≤ 512
 files : ∀ x ∈ d.files, x.mH
 aa : ∀ x ∈ d.aa, oG d x
 aN : ∀ x ∈ d.aN, oG d x
 classes : ∀ k ∈ d.classes, iF d k
theorem du {n : Nat} (h : n ≤ maxLen) : n ≤ 9223372036854775807 := h
theorem nv {α : Type} {f : α → T} {l : List α} {n : Nat} (e : decide (((l.map f).length : Int) > (n : Int)) = false) : l.length ≤ n := by
 have := of_decide_eq_false e
 rw [List.length_map] at this; omega
theorem nw {α : Type} {f : α → T} {l : List α} {n : Nat} (e : decide (((l.map f).length : Int) > (n : Int)) = true) : ¬ l.length ≤ n := by
 have := of_decide_eq_true e
 rw [List.length_map] at this; omega
theorem Fe (d : τ) (hd : d.ok) : af Tryz.prog 22 [aq d] (aO (li d)) := by
 obtain ⟨_, _, l1, o1, l2, o2, l3, o3, l4, o4, l5, o5, l6, o6, l7, o7, l8, o8, l9, o9, QF, QE, Mt, QD⟩ := hd
 have hA : af Tryz.prog 62 [.κ 4 (d.files.map dz), .fn (.func 63) [] []] (aO (∀ x ∈ d.files, x.mH)) :=
  BU _ d.files h_.mH (du l1) fun x _ => (tw x).iff decide_eq_true_iff
 have hB : ∀ l : List dw, l.length ≤ maxLen → af Tryz.prog 64 [.κ 3 (l.map bl), .fn (.func 65) [aq d] []] (aO (∀ x ∈ l, oG d x)) := fun l hl =>
  Bo _ (aq d) l (oG d) (du hl) fun x _ => Hy d x
 have hC : af Tryz.prog 66 [.κ 7 (d.classes.map aV), .fn (.func 67) [aq d] []] (aO (∀ x ∈ d.classes, iF d x)) :=
  Bn _ (aq d) d.classes (iF d) (du l4) fun x _ => yN d x
 refine af.Λ ?_ aO.aL
 refine γ.ο ζ η Tryz.func22 rfl rfl ?_
 refine U (fun c1 => ?_) (fun c1 => ?_)
 ·refine U (fun c2 => ?_) (fun c2 => ?_)
  ·exact ae fun h => by
    have c1 : ¬ d.order = 1 := by simpa using c1
    have c2 : ¬ d.order = 2 := by simpa using c2
    exact h.order.elim c1 c2
  have ho : d.order = 1 ∨ d.order = 2 := .inr (by simpa using c2)
  refine U (fun e1 => ?_) (fun e1 => ?_)
  ·exact ae fun h => nw (n := 8) e1 h.fi
  refine U (fun e2 => ?_) (fun e2 => ?_)
  ·exact ae fun h => nw (n := 16) e2 h.fg
  refine U (fun e3 => ?_) (fun e3 => ?_)
  ·exact ae fun h => nw (n := 64) e3 h.cl
  refine U (fun e4 => ?_) (fun e4 => ?_)
  ·exact ae fun h => nw (n := 512) e4 h.fl
  refine γ.g_ hA rfl ?_
  rintro _ ⟨bA, rfl, pA⟩
  refine U (fun cA => ?_) (fun cA => ?_)
  rotate_left 1
  ·exact ae fun h => absurd (pA.2 h.files) (by simpa using cA)
  refine γ.cD (hB d.aa l2) rfl ⟨.refl _, .refl _, trivial⟩ ?_
  rintro _ ⟨bB, rfl, pB⟩
  refine U (fun cB => ?_) (fun cB => ?_)
  rotate_left 1
  ·exact ae fun h => absurd (pB.2 h.aa) (by simpa using cB)
  refine γ.cD (hB d.aN Mt) rfl ⟨.refl _, .refl _, trivial⟩ ?_
  rintro _ ⟨bR, rfl, pR⟩
  refine U (fun cR => ?_) (fun cR => ?_)
  rotate_left 1
  ·exact ae fun h => absurd (pR.2 h.aN) (by simpa using cR)
  refine γ.cD hC rfl ⟨.refl _, .refl _, trivial⟩ ?_
  rintro _ ⟨bC, rfl, pC⟩
  exact aU ⟨fun h => ⟨ho, nv (n := 8) e1, nv (n := 16) e2, nv (n := 64) e3, nv (n := 512) e4, pA.1 (by simpa using cA), pB.1 (by simpa using cB), pR.1 (by simpa using cR), pC.1 (by simpa using h)⟩, fun h => by simpa using pC.2 h.classes⟩
 have ho : d.order = 1 ∨ d.order = 2 := .inl (by simpa using c1)
 refine U (fun e1 => ?_) (fun e1 => ?_)
 ·exact ae fun h => nw (n := 8) e1 h.fi
 refine U (fun e2 => ?_) (fun e2 => ?_)
 ·exact ae fun h => nw (n := 16) e2 h.fg
 refine U (fun e3 => ?_) (fun e3 => ?_)
 ·exact ae fun h => nw (n := 64) e3 h.cl
 refine U (fun e4 => ?_) (fun e4 => ?_)
 ·exact ae fun h => nw (n := 512) e4 h.fl
 refine γ.g_ hA rfl ?_
 rintro _ ⟨bA, rfl, pA⟩
 refine U (fun cA => ?_) (fun cA => ?_)
 rotate_left 1
 ·exact ae fun h => absurd (pA.2 h.files) (by simpa using cA)
 refine γ.cD (hB d.aa l2) rfl ⟨.refl _, .refl _, trivial⟩ ?_
 rintro _ ⟨bB, rfl, pB⟩
 refine U (fun cB => ?_) (fun cB => ?_)
 rotate_left 1
 ·exact ae fun h => absurd (pB.2 h.aa) (by simpa using cB)
 refine γ.cD (hB d.aN Mt) rfl ⟨.refl _, .refl _, trivial⟩ ?_
 rintro _ ⟨bR, rfl, pR⟩
 refine U (fun cR => ?_) (fun cR => ?_)
 rotate_left 1
 ·exact ae fun h => absurd (pR.2 h.aN) (by simpa using cR)
 refine γ.cD hC rfl ⟨.refl _, .refl _, trivial⟩ ?_
 rintro _ ⟨bC, rfl, pC⟩
 exact aU ⟨fun h => ⟨ho, nv (n := 8) e1, nv (n := 16) e2, nv (n := 64) e3, nv (n := 512) e4, pA.1 (by simpa using cA), pB.1 (by simpa using cB), pR.1 (by simpa using cR), pC.1 (by simpa using h)⟩, fun h => by simpa using pC.2 h.classes⟩
end Go.Proofs.YtcogcbplmkcojaaGreatDoor
