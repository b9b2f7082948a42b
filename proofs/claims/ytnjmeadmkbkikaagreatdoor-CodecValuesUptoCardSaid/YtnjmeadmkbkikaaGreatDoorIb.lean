/-
  A codec's pattern: the data; a bit that is set; the place of the next bit (walks).
-/
import Derived.Test.YtnjmeadmkbkikaaGreatDoorIa
namespace Go.Proofs.YtnjmeadmkbkikaaGreatDoor
open Go.IntWalk
set_option maxRecDepth 100000
set_option linter.unusedVariables false
set_option linter.unusedSimpArgs false
set_option maxHeartbeats 1000000

def ord_36_2 : Ord := (.op 0 [] (.op 1 [0] (.op 3 [1, 0] (.op 4 [1, 0] (.op 5 [1, 0] (.op 6 [1, 0] (.op 8 [6, 5, 4, 3, 1, 0] (.op 2 [8, 6, 5, 4, 3] (.op 7 [8] (.op 9 [] .nil))))))))))
def ord_36_6 : Ord := (.op 0 [] (.op 1 [] (.op 2 [1, 0] (.op 3 [2, 1, 0] (.op 4 [2, 1, 0] (.op 5 [4, 3, 2, 1, 0] (.op 6 [4, 3, 2, 1, 0] (.op 7 [2, 1, 0] (.op 8 [2, 1, 0] (.op 9 [2, 1, 0] (.op 10 [2, 1, 0] (.op 11 [] (.op 12 [] .nil)))))))))))))
def ord_36_29 : Ord := (.op 0 [] (.op 1 [] (.op 2 [1, 0] (.op 3 [1, 0] (.op 4 [] (.op 5 [] (.op 6 [5, 4, 3, 2, 1, 0] (.op 7 [6, 5, 4, 3, 2, 1, 0] (.op 8 [6, 5, 4, 3, 2, 1, 0] (.op 9 [] (.op 10 [] .nil)))))))))))
def ord_39_0 : Ord := (.op 0 [] (.op 1 [0] (.op 2 [0] (.op 3 [2, 1] (.op 4 [] (.op 5 [] (.op 6 [5, 4, 3, 2, 1, 0] (.op 7 [5, 4, 3, 2, 1, 0] (.op 8 [5, 4, 3, 2, 1, 0] (.op 9 [] (.op 10 [9, 8, 7, 6, 5, 4, 3, 2, 1] (.op 11 [] (.op 12 [] .nil)))))))))))))

theorem draw_introXS {ops : Array Oper} {s : St} {K : St → Prop} (D : Nat → List Nat) (σ : Ord) (h : drawOK ops (masks ops) σ [] [] = true) (k : xdr tabS (CallS Tryz.prog) ops D σ s K) : regS ops s K := ⟨D, σ, h, k⟩
def dS4 (l : List Nat) (j : Nat) : List Nat := if l.contains j then [4] else []
abbrev tIs : Nat := 46
/-- A codec's pattern as data. -/
def madeT (sz m0 m1 w0 w1 : Nat) (lz : Bool) (C : List (List Int)) : T := .agg [.int .i64 sz, .int .u64 m0, .int .u64 m1, .int .u64 w0, .int .u64 w1, .vecd 1 (C.map fun c => .vecd 1 (c.map (T.int .i64))), .bool lz]
def MadeS (d : DescD) (f : FormD) (r : AV) : Prop := ∃ (m0 m1 w0 w1 : Nat) (lz : Bool) (C : List (List Int)), r = .t (madeT ((rawB f.pieces).length / 8) m0 m1 w0 w1 lz C) ∧ MadeOK d f m0 m1 w0 w1 lz C
theorem MadeS.noRef {d : DescD} {f : FormD} : ∀ r, MadeS d f r → noRef r = true := by rintro r ⟨_, _, _, _, _, _, rfl, _⟩; rfl
theorem mkB8 {b : Int} (h : 0 ≤ b) (h2 : b ≤ 64) : (decide (0 ≤ b) && decide (b ≤ b) && decide (b * 8 ≤ 140737488355328) && decide (b ≤ 9223372036854775807) && true && true && true) = true := by simp; omega

end Go.Proofs.YtnjmeadmkbkikaaGreatDoor
