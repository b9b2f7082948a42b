/-
  What it means that the parts of a description are short.
-/
import Derived.Test.YtnjmeadmkbkikaaGreatDoorHi
import Derived.Test.YtnjmeadmkbkikaaGreatDoorFg
namespace Go.Proofs.YtnjmeadmkbkikaaGreatDoor
open Go.IntWalk
set_option maxRecDepth 100000
set_option linter.unusedVariables false
set_option linter.unusedSimpArgs false

def bytesT (b : List UInt8) : List T := b.map fun c => T.int .u8 c.toNat
/-- What short parts mean for a description. -/
theorem small_forms {d : DescD} {N : Nat} (h : SmallT N (descT d)) : ∀ f ∈ d.forms, sumL f.pieces ≤ N * (N + 64) := by
  cases h with
  | agg _ hs =>
    have h1 := hs (.vecd 5 (d.forms.map formT)) (by simp)
    cases h1 with
    | vecd _ _ h2 h3 =>
      intro f hf
      have h4 := h3 (formT f) (List.mem_map.2 ⟨f, hf, rfl⟩)
      cases h4 with
      | agg _ h5 =>
        have h6 := h5 (.vecd 4 (f.pieces.map pieceT)) (by simp)
        cases h6 with
        | vecd _ _ h7 h8 =>
          have key : ∀ l : List PieceD, (∀ p ∈ l, p.lit.length ≤ N) → sumL l ≤ l.length * (N + 64) := by
            intro l
            induction l with
            | nil => intro _; exact Nat.zero_le _
            | cons p l ih =>
              intro hp
              have a := ih fun q hq => hp q (List.mem_cons_of_mem _ hq)
              have b := hp p List.mem_cons_self
              simp only [sumL, pieceLen, List.length_cons, Nat.add_mul, Nat.one_mul]
              simp only [Nat.add_mul, Nat.one_mul, Nat.mul_add] at a
              simp only [Nat.mul_add]
              omega
          have h9 := key f.pieces fun p hp => by
            have h10 := h8 (pieceT p) (List.mem_map.2 ⟨p, hp, rfl⟩)
            cases h10 with
            | agg _ h11 =>
              have h12 := h11 (.str p.lit) (by simp)
              cases h12 with
              | str _ h13 => exact h13
          rw [List.length_map] at h7
          exact Nat.le_trans h9 (Nat.mul_le_mul_right _ h7)

end Go.Proofs.YtnjmeadmkbkikaaGreatDoor
