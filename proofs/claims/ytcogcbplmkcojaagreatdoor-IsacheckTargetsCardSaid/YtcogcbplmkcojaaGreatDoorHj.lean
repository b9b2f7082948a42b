/-
  Forms that are apart: no bytes fit both (plain law, without the program).
-/
import Derived.Test.YtcogcbplmkcojaaGreatDoorHi
namespace Go.Proofs.YtcogcbplmkcojaaGreatDoor
open Go.IntWalk
set_option maxRecDepth 100000
set_option linter.unusedVariables false
set_option linter.unusedSimpArgs false
set_option maxHeartbeats 1000000
def jn (o : Int) (L : List Θ) : List Θ := (List.range L.length).map fun p => (L[eQ o L.length p]?).getD ⟨0, 0, 0⟩
theorem mW (o : Int) (L : List Θ) : (jn o L).length = L.length := by simp [jn]
theorem mX {o : Int} {L : List Θ} (h8 : L.length % 8 = 0) {p : Nat} (hp : p < L.length) : (jn o L)[p]? = L[eQ o L.length p]? := by
 have := tR (o := o) hp h8
 rw [jn, List.getElem?_map, List.getElem?_range hp, List.getElem?_eq_getElem this, Option.map_some, List.getElem?_eq_getElem this]; rfl
theorem jb.eq {o : Int} {L R : List Θ} (h : jb o L R) (h8 : L.length % 8 = 0) : R = jn o L := by
 apply List.ext_getElem?
 intro p
 by_cases hp : p < L.length
 ·rw [h.at_ h8 hp, mX h8 hp]
 ·rw [List.getElem?_eq_none (by rw [h.1]; omega), List.getElem?_eq_none (by rw [mW]; omega)]
theorem BI {o : Int} {L : List Θ} (h8 : L.length % 8 = 0) {b : Θ} (hb : b ∈ jn o L) : b ∈ L := by
 obtain ⟨p, hp, e⟩ := List.getElem_of_mem hb
 rw [mW] at hp
 have h1 := mX (o := o) h8 hp
 rw [List.getElem?_eq_getElem (by rw [mW]; exact hp), e] at h1
 exact List.mem_of_getElem? h1.symm
def aE (d : τ) (f : aj) : List Θ := jn d.order (bN f.pieces)
theorem iA (d : τ) (f : aj) : (aE d f).length = (bN f.pieces).length := mW _ _
def oA (d : τ) (f : aj) (b : Θ) : Prop :=
 (b.arg = -1 ∧ b.num = 0 ∧ (b.lit = 48 ∨ b.lit = 49 ∨ b.lit = 120)) ∨
 (b.lit = 0 ∧ ∃ (i : Nat) (a : cU) (k : dN) (m : Nat), b.arg = (i : Int) ∧ f.args[i]? = some a ∧ cV d.classes a.bn = some k ∧ b.num = (m : Int) ∧ (m : Int) < k.bits ∧ iF d k)
theorem di.J0 {d : τ} {f : aj} (h : di d f) : ∀ b ∈ bN f.pieces, oA d f b := by
 have key : ∀ l : List bw, (∀ p ∈ l, mK d f p) → ∀ b ∈ bN l, oA d f b := by
  intro l
  induction l with
  | nil => intro _ b hb; cases hb
  | cons p l ih =>
   intro hp b hb
   rcases List.mem_append.1 (show b ∈ eW p ++ bN l from hb) with hb | hb
   ·rcases hp p List.mem_cons_self with ⟨h1, _, h3⟩ | ⟨h1, g, k, hg, hk, c1, c2, c3⟩
    ·rw [eW, if_pos h1] at hb
     obtain ⟨x, hx, rfl⟩ := List.mem_map.1 hb
     refine .inl ⟨rfl, rfl, ?_⟩
     have := h3 x hx
     unfold rN at this
     simp at this
     show x.toNat = 48 ∨ x.toNat = 49 ∨ x.toNat = 120
     omega
    ·rw [eW, if_neg h1] at hb
     unfold dL at hb
     obtain ⟨i, hi, rfl⟩ := List.mem_map.1 hb
     have hi := List.mem_range.1 hi
     unfold qD at hi
     obtain ⟨k2, dA, de⟩ := h.CK g (at_mem hg)
     obtain rfl : k = k2 := by rw [hk] at dA; exact Option.some.inj dA
     have h0 := oy hg
     obtain ⟨a2, e1, _, e2⟩ := cN h0
     obtain rfl : g = a2 := by rw [hg] at e1; exact Option.some.inj e1
     exact .inr ⟨rfl, p.arg.toNat, g, k, (p.hi - (i : Int)).toNat, by show p.arg = _; omega, e2, hk, by show p.hi - (i : Int) = _; omega, by omega, de⟩
   ·exact ih (fun q hq => hp q (List.mem_cons_of_mem _ hq)) b hb
 exact key _ h.x5
theorem di.is {d : τ} {f : aj} (h : di d f) : ∀ b ∈ aE d f, oA d f b := fun b hb => h.J0 b (BI h.m8 hb)
theorem di.FX {d : τ} {f : aj} (h : di d f) {p : Nat} {b : Θ} (hb : (aE d f)[p]? = some b) : oA d f b := h.is b (List.mem_of_getElem? hb)
theorem di.Hw {d : τ} {f : aj} (h : di d f) {p q : Nat} {x y : Θ} (hp : (aE d f)[p]? = some x) (hq : (aE d f)[q]? = some y) (aw : p ≠ q) (h0 : 0 ≤ x.arg) : ¬ (x.arg = y.arg ∧ x.num = y.num) := by
 have lp := (List.getElem?_eq_some_iff.1 hp).1
 have lq := (List.getElem?_eq_some_iff.1 hq).1
 rw [iA] at lp lq
 rw [aE, mX h.m8 lp] at hp
 rw [aE, mX h.m8 lq] at hq
 have MY : eQ d.order (bN f.pieces).length p ≠ eQ d.order (bN f.pieces).length q := fun e => aw (u6 lp lq e)
 have hd := List.pairwise_iff_getElem.1 h.N2
 obtain ⟨a1, a2⟩ := List.getElem?_eq_some_iff.1 hp
 obtain ⟨b1, b2⟩ := List.getElem?_eq_some_iff.1 hq
 rcases Nat.lt_or_gt_of_ne MY with χ | χ
 ·have := hd _ _ a1 b1 χ
  rw [a2, b2] at this
  exact this h0
 ·have := hd _ _ b1 a1 χ
  rw [a2, b2] at this
  rintro ⟨e1, e2⟩
  exact this (by rw [← e1]; exact h0) ⟨e1.symm, e2.symm⟩
def jD (b : List UInt8) (p : Nat) : Bool := ((b[p / 8]?).getD 0).toNat.testBit (p % 8)
def jc (A : List Θ) (i : Int) (one : Nat → Bool) (n : Nat) : Prop := ∀ m : Nat, n.testBit m = true ↔ ∃ (p : Nat) (x : Θ), A[p]? = some x ∧ x.arg = i ∧ x.num = (m : Int) ∧ one p = true
theorem jc.oJ {A : List Θ} {i : Int} {one : Nat → Bool} {n m : Nat} (h : jc A i one n) (k : jc A i one m) : n = m :=
 Nat.eq_of_testBit_eq fun j => by
  have h1 := h j
  have k1 := k j
  cases e : n.testBit j <;> cases e2 : m.testBit j <;> simp [e, e2] at h1 k1 ⊢
  ·obtain ⟨p, x, a, b, c, d⟩ := k1
   rw [h1 p x a b c] at d; cases d
  ·obtain ⟨p, x, a, b, c, d⟩ := h1
   rw [k1 p x a b c] at d; cases d
theorem jc.congr {A : List Θ} {i : Int} {one Ml : Nat → Bool} {n : Nat} (h : jc A i one n) (e : ∀ (p : Nat) (x : Θ), A[p]? = some x → x.arg = i → one p = Ml p) : jc A i Ml n := fun m => by
 rw [h m]
 constructor
 ·rintro ⟨p, x, a, b, c, d⟩; exact ⟨p, x, a, b, c, by rw [← e p x a b]; exact d⟩
 ·rintro ⟨p, x, a, b, c, d⟩; exact ⟨p, x, a, b, c, by rw [e p x a b]; exact d⟩
theorem jc.lt {A : List Θ} {i : Int} {one : Nat → Bool} {n k : Nat} (h : jc A i one n) (hb : ∀ (p : Nat) (x : Θ), A[p]? = some x → x.arg = i → x.num < (k : Int)) : n < 2 ^ k := by
 refine Nat.lt_pow_two_of_testBit n fun j hj => ?_
 cases e : n.testBit j
 ·rfl
 ·obtain ⟨p, x, a, b, c, _⟩ := (h j).1 e
  have := hb p x a b
  omega
def se (d : τ) (f : aj) (b : List UInt8) : Prop :=
 (aE d f).length ≤ 8 * b.length ∧ (∀ (p : Nat) (x : Θ), (aE d f)[p]? = some x → (x.lit = 48 → jD b p = false) ∧ (x.lit = 49 → jD b p = true)) ∧
 ∀ (i : Nat) a k n, f.args[i]? = some a → cV d.classes a.bn = some k → jc (aE d f) i (jD b) n → eo k n ∉ k.bb
def gb (b : Θ) : Prop := b.arg < 0 ∧ b.lit ≠ 120
def gl (B : List Θ) (p : Nat) : Bool := match B[p]? with | some y => decide (y.lit = 49) | none => false
def HA (d : τ) (f : aj) (A B : List Θ) : Prop :=
 ∃ (i : Nat) (a : cU) (k : dN) (n : Nat), f.args[i]? = some a ∧ cV d.classes a.bn = some k ∧ (∀ (p : Nat) (x : Θ), A[p]? = some x → x.arg = (i : Int) → ∃ y : Θ, B[p]? = some y ∧ gb y) ∧ jc A i (gl B) n ∧ eo k n ∈ k.bb
def ur (A B : List Θ) : Prop := ∃ (p : Nat) (x y : Θ), A[p]? = some x ∧ B[p]? = some y ∧ gb x ∧ gb y ∧ (x.lit = 49 ↔ ¬ y.lit = 49)
def iG (d : τ) (f g : aj) : Prop := ur (aE d f) (aE d g) ∨ HA d f (aE d f) (aE d g) ∨ HA d g (aE d g) (aE d f)
theorem oA.lit {d : τ} {f : aj} {b : Θ} (h : oA d f b) (hl : gb b) : b.lit = 48 ∨ b.lit = 49 := by
 rcases h with ⟨_, _, h⟩ | ⟨_, i, _, _, _, h, _⟩
 ·have := hl.2; omega
 ·have := hl.1; omega
theorem Cz {d : τ} {f g : aj} (hg : di d g) {b : List UInt8} (h : HA d f (aE d f) (aE d g)) (h1 : se d f b) (h2 : se d g b) : False := by
 obtain ⟨i, a, k, n, ha, hk, hw, hn, hm⟩ := h
 refine h1.2.2 i a k n ha hk (hn.congr fun p x hp hx => ?_) hm
 obtain ⟨y, hy, hl⟩ := hw p x hp hx
 have h3 := h2.2.1 p y hy
 unfold gl
 rw [hy]
 rcases (hg.FX hy).lit hl with e | e
 ·rw [h3.1 e]; simp [e]
 ·rw [h3.2 e]; simp [e]
theorem Ht {d : τ} {f g : aj} (hf : di d f) (hg : di d g) (h : iG d f g) {b : List UInt8} (h1 : se d f b) (h2 : se d g b) : False := by
 rcases h with ⟨p, x, y, hx, hy, lx, ly, he⟩ | h | h
 ·have e1 := h1.2.1 p x hx
  have e2 := h2.2.1 p y hy
  rcases (hf.FX hx).lit lx with ex | ex <;> rcases (hg.FX hy).lit ly with ey | ey
  ·omega
  ·rw [e2.2 ey] at e1; exact absurd (e1.1 ex) (by simp)
  ·rw [e2.1 ey] at e1; exact absurd (e1.2 ex) (by simp)
  ·omega
 ·exact Cz hg h h1 h2
 ·exact Cz hf h h2 h1
end Go.Proofs.YtcogcbplmkcojaaGreatDoor
