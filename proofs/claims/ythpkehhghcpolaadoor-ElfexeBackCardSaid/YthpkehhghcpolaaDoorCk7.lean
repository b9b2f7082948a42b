/-
  The sections of a file: headers and bytes.
-/
import Derived.Test.YthpkehhghcpolaaDoorCk6
namespace Go.Proofs.YthpkehhghcpolaaDoor
open Go.IntWalk
set_option maxRecDepth 100000
set_option linter.unusedVariables false
set_option linter.unusedSimpArgs false

/-- Where a section's header is, and its numbers. -/
def hA (bs : List UInt8) (i : Nat) : Nat := (gN bs 40 8 + 64 * i) % 18446744073709551616
def hF (bs : List UInt8) (i d n : Nat) : Nat := gN bs ((hA bs i + d) % 18446744073709551616) n

/-- A section's bytes; none, if they don't lie within. -/
def sB (bs : List UInt8) (i : Nat) : List UInt8 := if hF bs i 24 8 + hF bs i 32 8 ≤ bs.length then (bs.drop (hF bs i 24 8)).take (hF bs i 32 8) else []
def sT (bs : List UInt8) (i : Nat) : T := if hF bs i 24 8 + hF bs i 32 8 ≤ bs.length then .vec 1 (U ((bs.drop (hF bs i 24 8)).take (hF bs i 32 8))) else .nils

end Go.Proofs.YthpkehhghcpolaaDoor
