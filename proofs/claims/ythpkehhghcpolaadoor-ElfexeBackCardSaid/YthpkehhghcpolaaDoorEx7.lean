/-
  An executable's file as a list of bytes (plain; no program in sight).
-/
import Derived.Test.YthpkehhghcpolaaDoorEx5
namespace Go.Proofs.YthpkehhghcpolaaDoor
open Go.IntWalk
set_option linter.unusedVariables false

/-- A program header, with its data. -/
structure HdD where
  k : Nat
  fl : Nat
  v : Nat
  sz : Nat
  al : Nat
  d : List UInt8

def hdsOf (x : ExeD) : List HdD :=
  x.ss.map (fun s => ⟨1, s.f.toNat, s.v.toNat, s.s.toNat, 4096, s.d⟩) ++ x.ts.map (fun t => ⟨7, 4, t.f.toNat, t.v.toNat, t.s.toNat, t.d⟩)

/-- The bytes ahead of a header's data when the file is that long. -/
def gapOf (at_ : Nat) (h : HdD) : Nat := ((h.v + 18446744073709551616 - at_) % 18446744073709551616) % h.al

/-- The length behind a header's data. -/
def stepAt (at_ : Nat) (h : HdD) : Nat := if h.d.length = 0 then at_ else at_ + (gapOf at_ h + h.d.length)

/-- The headers' places. -/
def offsOf : Nat → List HdD → List Nat
  | _, [] => []
  | at_, h :: r => (at_ + gapOf at_ h) :: offsOf (stepAt at_ h) r

def endOf : Nat → List HdD → Nat
  | at_, [] => at_
  | at_, h :: r => endOf (stepAt at_ h) r

def bodyOf : Nat → List HdD → List UInt8
  | _, [] => []
  | at_, h :: r => (if h.d.length = 0 then [] else List.replicate (gapOf at_ h) 0 ++ h.d) ++ bodyOf (stepAt at_ h) r

def hdB (h : HdD) (o : Nat) : List UInt8 :=
  little 4 h.k ++ little 4 h.fl ++ little 8 o ++ little 8 h.v ++ little 8 h.v ++ little 8 h.d.length ++ little 8 h.sz ++ little 8 h.al

def hdsB : List HdD → List Nat → List UInt8
  | h :: r, o :: os => hdB h o ++ hdsB r os
  | _, _ => []

def frontB (x : ExeD) (n : Nat) : List UInt8 :=
  [127, 69, 76, 70, 2, 1, 1] ++ List.replicate 9 0 ++ little 2 2 ++ little 2 x.m.toNat ++ little 4 1 ++ little 8 x.e.toNat ++ little 8 64 ++ little 8 0 ++ little 4 0 ++ little 2 64 ++ little 2 56 ++ little 2 n ++ little 6 0

def fileL (x : ExeD) : List UInt8 :=
  let l := hdsOf x
  let at_ := 64 + 56 * l.length
  frontB x l.length ++ hdsB l (offsOf at_ l) ++ bodyOf at_ l

theorem frontB_len (x : ExeD) (n : Nat) : (frontB x n).length = 64 := by simp [frontB, little_len]
theorem hdB_len (h : HdD) (o : Nat) : (hdB h o).length = 56 := by simp [hdB, little_len]
theorem offsOf_len : ∀ (l : List HdD) (a : Nat), (offsOf a l).length = l.length
  | [], a => rfl
  | h :: r, a => by simp [offsOf, offsOf_len r]
theorem hdsB_len : ∀ (l : List HdD) (os : List Nat), os.length = l.length → (hdsB l os).length = 56 * l.length
  | [], os, h => by cases os <;> simp [hdsB]
  | x :: r, [], h => by simp at h
  | x :: r, o :: os, h => by
    have := hdsB_len r os (by simpa using h)
    simp [hdsB, hdB_len, this]; omega
theorem body_len : ∀ (l : List HdD) (a : Nat), a + (bodyOf a l).length = endOf a l
  | [], a => rfl
  | h :: r, a => by
    have := body_len r (stepAt a h)
    simp only [bodyOf, endOf, List.length_append]
    rw [← this, stepAt]
    split <;> simp <;> omega
theorem fileL_len (x : ExeD) : (fileL x).length = endOf (64 + 56 * (hdsOf x).length) (hdsOf x) := by
  simp only [fileL, List.length_append, frontB_len]
  rw [hdsB_len _ _ (offsOf_len _ _)]
  exact body_len _ _

end Go.Proofs.YthpkehhghcpolaaDoor
