/-
  Forms that are apart: no bytes fit both (plain law, without the program).
-/
import Derived.Test.YtnjmeadmkbkikaaGreatDoorHi
namespace Go.Proofs.YtnjmeadmkbkikaaGreatDoor
open Go.IntWalk
set_option maxRecDepth 100000
set_option linter.unusedVariables false
set_option linter.unusedSimpArgs false
set_option maxHeartbeats 1000000

/-- Bits that are put at their places, as a function. -/
def placedL (o : Int) (L : List BitD) : List BitD := (List.range L.length).map fun p => (L[posN o L.length p]?).getD ⟨0, 0, 0⟩
theorem placedL_len (o : Int) (L : List BitD) : (placedL o L).length = L.length := by simp [placedL]
theorem placedL_get {o : Int} {L : List BitD} (h8 : L.length % 8 = 0) {p : Nat} (hp : p < L.length) : (placedL o L)[p]? = L[posN o L.length p]? := by
  have := posN_lt (o := o) hp h8
  rw [placedL, List.getElem?_map, List.getElem?_range hp, List.getElem?_eq_getElem this, Option.map_some, List.getElem?_eq_getElem this]; rfl
theorem IsPlaced.eq {o : Int} {L R : List BitD} (h : IsPlaced o L R) (h8 : L.length % 8 = 0) : R = placedL o L := by
  apply List.ext_getElem?
  intro p
  by_cases hp : p < L.length
  · rw [h.at_ h8 hp, placedL_get h8 hp]
  · rw [List.getElem?_eq_none (by rw [h.1]; omega), List.getElem?_eq_none (by rw [placedL_len]; omega)]
theorem placedL_mem {o : Int} {L : List BitD} (h8 : L.length % 8 = 0) {b : BitD} (hb : b ∈ placedL o L) : b ∈ L := by
  obtain ⟨p, hp, e⟩ := List.getElem_of_mem hb
  rw [placedL_len] at hp
  have h1 := placedL_get (o := o) h8 hp
  rw [List.getElem?_eq_getElem (by rw [placedL_len]; exact hp), e] at h1
  exact List.mem_of_getElem? h1.symm

/-- A form's bits by their places. -/
def formBits (d : DescD) (f : FormD) : List BitD := placedL d.order (rawB f.pieces)
theorem formBits_len (d : DescD) (f : FormD) : (formBits d f).length = (rawB f.pieces).length := placedL_len _ _

/-- What a bit of a right pattern is. -/
def BitIs (d : DescD) (f : FormD) (b : BitD) : Prop :=
  (b.arg = -1 ∧ b.num = 0 ∧ (b.lit = 48 ∨ b.lit = 49 ∨ b.lit = 120)) ∨
  (b.lit = 0 ∧ ∃ (i : Nat) (a : ArgD) (k : ClassD) (m : Nat), b.arg = (i : Int) ∧ f.args[i]? = some a ∧ at? d.classes a.cls = some k ∧ b.num = (m : Int) ∧ (m : Int) < k.bits ∧ ClassOK d k)
theorem GoodF.isRaw {d : DescD} {f : FormD} (h : GoodF d f) : ∀ b ∈ rawB f.pieces, BitIs d f b := by
  have key : ∀ l : List PieceD, (∀ p ∈ l, PieceOK d f p) → ∀ b ∈ rawB l, BitIs d f b := by
    intro l
    induction l with
    | nil => intro _ b hb; cases hb
    | cons p l ih =>
      intro hp b hb
      rcases List.mem_append.1 (show b ∈ rawP p ++ rawB l from hb) with hb | hb
      · rcases hp p List.mem_cons_self with ⟨h1, _, h3⟩ | ⟨h1, g, k, hg, hk, c1, c2, c3⟩
        · rw [rawP, if_pos h1] at hb
          obtain ⟨x, hx, rfl⟩ := List.mem_map.1 hb
          refine .inl ⟨rfl, rfl, ?_⟩
          have := h3 x hx
          unfold isBit at this
          simp at this
          show x.toNat = 48 ∨ x.toNat = 49 ∨ x.toNat = 120
          omega
        · rw [rawP, if_neg h1] at hb
          unfold opBits at hb
          obtain ⟨i, hi, rfl⟩ := List.mem_map.1 hb
          have hi := List.mem_range.1 hi
          unfold pieceN at hi
          obtain ⟨k2, hk2, hok⟩ := h.aok g (at_mem hg)
          obtain rfl : k = k2 := by rw [hk] at hk2; exact Option.some.inj hk2
          have h0 := at_lt hg
          obtain ⟨a2, e1, _, e2⟩ := at_some h0
          obtain rfl : g = a2 := by rw [hg] at e1; exact Option.some.inj e1
          exact .inr ⟨rfl, p.arg.toNat, g, k, (p.hi - (i : Int)).toNat, by show p.arg = _; omega, e2, hk, by show p.hi - (i : Int) = _; omega, by omega, hok⟩
      · exact ih (fun q hq => hp q (List.mem_cons_of_mem _ hq)) b hb
  exact key _ h.pok
theorem GoodF.is {d : DescD} {f : FormD} (h : GoodF d f) : ∀ b ∈ formBits d f, BitIs d f b := fun b hb => h.isRaw b (placedL_mem h.m8 hb)
theorem GoodF.is_ {d : DescD} {f : FormD} (h : GoodF d f) {p : Nat} {b : BitD} (hb : (formBits d f)[p]? = some b) : BitIs d f b := h.is b (List.mem_of_getElem? hb)

/-- Two places have two bits. -/
theorem GoodF.apartBits {d : DescD} {f : FormD} (h : GoodF d f) {p q : Nat} {x y : BitD} (hp : (formBits d f)[p]? = some x) (hq : (formBits d f)[q]? = some y) (hne : p ≠ q) (h0 : 0 ≤ x.arg) : ¬ (x.arg = y.arg ∧ x.num = y.num) := by
  have lp := (List.getElem?_eq_some_iff.1 hp).1
  have lq := (List.getElem?_eq_some_iff.1 hq).1
  rw [formBits_len] at lp lq
  rw [formBits, placedL_get h.m8 lp] at hp
  rw [formBits, placedL_get h.m8 lq] at hq
  have hne2 : posN d.order (rawB f.pieces).length p ≠ posN d.order (rawB f.pieces).length q := fun e => hne (posN_inj lp lq e)
  have hd := List.pairwise_iff_getElem.1 h.dist
  obtain ⟨a1, a2⟩ := List.getElem?_eq_some_iff.1 hp
  obtain ⟨b1, b2⟩ := List.getElem?_eq_some_iff.1 hq
  rcases Nat.lt_or_gt_of_ne hne2 with hlt | hlt
  · have := hd _ _ a1 b1 hlt
    rw [a2, b2] at this
    exact this h0
  · have := hd _ _ b1 a1 hlt
    rw [a2, b2] at this
    rintro ⟨e1, e2⟩
    exact this (by rw [← e1]; exact h0) ⟨e1.symm, e2.symm⟩

/-- A bit of some bytes. -/
def bitOf (b : List UInt8) (p : Nat) : Bool := ((b[p / 8]?).getD 0).toNat.testBit (p % 8)
/-- The number that the bits of an operand make. -/
def IsNum (A : List BitD) (i : Int) (one : Nat → Bool) (n : Nat) : Prop := ∀ m : Nat, n.testBit m = true ↔ ∃ (p : Nat) (x : BitD), A[p]? = some x ∧ x.arg = i ∧ x.num = (m : Int) ∧ one p = true
theorem IsNum.uniq {A : List BitD} {i : Int} {one : Nat → Bool} {n m : Nat} (h : IsNum A i one n) (k : IsNum A i one m) : n = m :=
  Nat.eq_of_testBit_eq fun j => by
    have h1 := h j
    have k1 := k j
    cases e : n.testBit j <;> cases e2 : m.testBit j <;> simp [e, e2] at h1 k1 ⊢
    · obtain ⟨p, x, a, b, c, d⟩ := k1
      rw [h1 p x a b c] at d; cases d
    · obtain ⟨p, x, a, b, c, d⟩ := h1
      rw [k1 p x a b c] at d; cases d
theorem IsNum.congr {A : List BitD} {i : Int} {one one' : Nat → Bool} {n : Nat} (h : IsNum A i one n) (e : ∀ (p : Nat) (x : BitD), A[p]? = some x → x.arg = i → one p = one' p) : IsNum A i one' n := fun m => by
  rw [h m]
  constructor
  · rintro ⟨p, x, a, b, c, d⟩; exact ⟨p, x, a, b, c, by rw [← e p x a b]; exact d⟩
  · rintro ⟨p, x, a, b, c, d⟩; exact ⟨p, x, a, b, c, by rw [e p x a b]; exact d⟩
theorem IsNum.lt {A : List BitD} {i : Int} {one : Nat → Bool} {n k : Nat} (h : IsNum A i one n) (hb : ∀ (p : Nat) (x : BitD), A[p]? = some x → x.arg = i → x.num < (k : Int)) : n < 2 ^ k := by
  refine Nat.lt_pow_two_of_testBit n fun j hj => ?_
  cases e : n.testBit j
  · rfl
  · obtain ⟨p, x, a, b, c, _⟩ := (h j).1 e
    have := hb p x a b
    omega

def FitsP (d : DescD) (f : FormD) (b : List UInt8) : Prop :=
  (formBits d f).length ≤ 8 * b.length ∧ (∀ (p : Nat) (x : BitD), (formBits d f)[p]? = some x → (x.lit = 48 → bitOf b p = false) ∧ (x.lit = 49 → bitOf b p = true)) ∧
  ∀ (i : Nat) a k n, f.args[i]? = some a → at? d.classes a.cls = some k → IsNum (formBits d f) i (bitOf b) n → valueV k n ∉ k.excl
/-- Literals; ones among them. -/
def isLit (b : BitD) : Prop := b.arg < 0 ∧ b.lit ≠ 120
def oneLit (B : List BitD) (p : Nat) : Bool := match B[p]? with | some y => decide (y.lit = 49) | none => false
def Exc (d : DescD) (f : FormD) (A B : List BitD) : Prop :=
  ∃ (i : Nat) (a : ArgD) (k : ClassD) (n : Nat), f.args[i]? = some a ∧ at? d.classes a.cls = some k ∧ (∀ (p : Nat) (x : BitD), A[p]? = some x → x.arg = (i : Int) → ∃ y : BitD, B[p]? = some y ∧ isLit y) ∧ IsNum A i (oneLit B) n ∧ valueV k n ∈ k.excl
def DiffP (A B : List BitD) : Prop := ∃ (p : Nat) (x y : BitD), A[p]? = some x ∧ B[p]? = some y ∧ isLit x ∧ isLit y ∧ (x.lit = 49 ↔ ¬ y.lit = 49)
def ApartP (d : DescD) (f g : FormD) : Prop := DiffP (formBits d f) (formBits d g) ∨ Exc d f (formBits d f) (formBits d g) ∨ Exc d g (formBits d g) (formBits d f)

theorem BitIs.lit {d : DescD} {f : FormD} {b : BitD} (h : BitIs d f b) (hl : isLit b) : b.lit = 48 ∨ b.lit = 49 := by
  rcases h with ⟨_, _, h⟩ | ⟨_, i, _, _, _, h, _⟩
  · have := hl.2; omega
  · have := hl.1; omega

theorem exc_law {d : DescD} {f g : FormD} (hg : GoodF d g) {b : List UInt8} (h : Exc d f (formBits d f) (formBits d g)) (h1 : FitsP d f b) (h2 : FitsP d g b) : False := by
  obtain ⟨i, a, k, n, ha, hk, hw, hn, hm⟩ := h
  refine h1.2.2 i a k n ha hk (hn.congr fun p x hp hx => ?_) hm
  obtain ⟨y, hy, hl⟩ := hw p x hp hx
  have h3 := h2.2.1 p y hy
  unfold oneLit
  rw [hy]
  rcases (hg.is_ hy).lit hl with e | e
  · rw [h3.1 e]; simp [e]
  · rw [h3.2 e]; simp [e]

theorem apart_law {d : DescD} {f g : FormD} (hf : GoodF d f) (hg : GoodF d g) (h : ApartP d f g) {b : List UInt8} (h1 : FitsP d f b) (h2 : FitsP d g b) : False := by
  rcases h with ⟨p, x, y, hx, hy, lx, ly, he⟩ | h | h
  · have e1 := h1.2.1 p x hx
    have e2 := h2.2.1 p y hy
    rcases (hf.is_ hx).lit lx with ex | ex <;> rcases (hg.is_ hy).lit ly with ey | ey
    · omega
    · rw [e2.2 ey] at e1; exact absurd (e1.1 ex) (by simp)
    · rw [e2.1 ey] at e1; exact absurd (e1.2 ex) (by simp)
    · omega
  · exact exc_law hg h h1 h2
  · exact exc_law hf h h2 h1

end Go.Proofs.YtnjmeadmkbkikaaGreatDoor
