/-
  DERIVED. GIVEN WITH THE SEED: THE CARDS: each row of YtndndphafpgpfaaGreatDoorRows.lean that lists a variable, with what it lists TIED to the program's text (the seventh form; the later family's looks); each row that meets fmt, with fmt's text TOLD by the authors' own Lean function (tested against real Go, not proved from fmt's source: count such statements apart). THE CARD IS WHAT COUNTS. Prove the row's statement (the work); the ties are given (YtndndphafpgpfaaGreatDoorTie.lean); close each card by the builder's one call (the guide's Derived/Test/ToyasCard.lean, 'card_holds'). Laid BY PROGRAM, IN A SANDBOX (cutbox-door.mjs). By AI agents, Wed Nov 11 2026. No macro, syntax, notation, axiom, sorry.
-/
import Derived.Test.YtndndphafpgpfaaGreatDoorRows
import GoSem.ClaimSeven
namespace Go.Proofs.YtndndphafpgpfaaGreatDoor
namespace Rows

/-- THE TIED CARD OF 'dovetaillaw05.IsacheckNames'. -/
def isacheckNamesCard : Claim7 := { stood := { row := isacheckNamesRow, standIns := [], harness := (true, "d191c866bdfb5a558cdfa63045f9d9acf3c2cbe27cca67fc2c5ad13fcaa4483b"), looks := true }, kinds := [], alts := [], laidByText := true, laidKinds := [.data, .pinned], laidTests := true, laidLooks := .later }
def IsacheckNamesCardSaid : Prop := Claim7.holds Tryz.pinned (.plain (OpenSpec.ofChange isacheckNamesSpec)) isacheckNamesCard

/-- THE TIED CARD OF 'dovetaillaw05.IsacheckShipped'. -/
def isacheckShippedCard : Claim7 := { stood := { row := isacheckShippedRow, standIns := [], harness := (true, "d191c866bdfb5a558cdfa63045f9d9acf3c2cbe27cca67fc2c5ad13fcaa4483b"), looks := true }, kinds := [], alts := [], laidByText := true, laidKinds := [.data, .pinned], laidTests := true, laidLooks := .later }
def IsacheckShippedCardSaid : Prop := Claim7.holds Tryz.pinned (.plain (OpenSpec.ofChange isacheckShippedSpec)) isacheckShippedCard

/-- THE TIED CARD OF 'dovetaillaw06.CodecNames'. -/
def codecNamesCard : Claim7 := { stood := { row := codecNamesRow, standIns := [], harness := (true, "d191c866bdfb5a558cdfa63045f9d9acf3c2cbe27cca67fc2c5ad13fcaa4483b"), looks := true }, kinds := [], alts := [], laidByText := true, laidKinds := [.data, .pinned], laidTests := true, laidLooks := .later }
def CodecNamesCardSaid : Prop := Claim7.holds Tryz.pinned (.plain (OpenSpec.ofChange codecNamesSpec)) codecNamesCard

/-- THE TIED CARD OF 'dovetaillaw08.TermNames'. -/
def termNamesCard : Claim7 := { stood := { row := termNamesRow, standIns := [], harness := (true, "d191c866bdfb5a558cdfa63045f9d9acf3c2cbe27cca67fc2c5ad13fcaa4483b"), looks := true }, kinds := [], alts := [], laidByText := true, laidKinds := [.data, .pinned], laidTests := true, laidLooks := .later }
def TermNamesCardSaid : Prop := Claim7.holds Tryz.pinned (.plain (OpenSpec.ofChange termNamesSpec)) termNamesCard

/-- THE SECOND FORM's CARD OF 'dovetaillaw05.IsacheckNames'. -/
def isacheckNamesUptoCard : Claim7 := { stood := { row := isacheckNamesUptoRow, standIns := [], harness := (true, "d191c866bdfb5a558cdfa63045f9d9acf3c2cbe27cca67fc2c5ad13fcaa4483b"), looks := true }, kinds := [], alts := [], laidByText := true, laidKinds := [.data, .pinned], laidTests := true, laidLooks := .later }
def IsacheckNamesUptoCardSaid : Prop := Claim7.holds Tryz.pinned (.plain (OpenSpec.upto isacheckNamesSpec)) isacheckNamesUptoCard

/-- THE SECOND FORM's CARD OF 'dovetaillaw05.IsacheckShipped'. -/
def isacheckShippedUptoCard : Claim7 := { stood := { row := isacheckShippedUptoRow, standIns := [], harness := (true, "d191c866bdfb5a558cdfa63045f9d9acf3c2cbe27cca67fc2c5ad13fcaa4483b"), looks := true }, kinds := [], alts := [], laidByText := true, laidKinds := [.data, .pinned], laidTests := true, laidLooks := .later }
def IsacheckShippedUptoCardSaid : Prop := Claim7.holds Tryz.pinned (.plain (OpenSpec.upto isacheckShippedSpec)) isacheckShippedUptoCard

/-- THE SECOND FORM's CARD OF 'dovetaillaw06.CodecNames'. -/
def codecNamesUptoCard : Claim7 := { stood := { row := codecNamesUptoRow, standIns := [], harness := (true, "d191c866bdfb5a558cdfa63045f9d9acf3c2cbe27cca67fc2c5ad13fcaa4483b"), looks := true }, kinds := [], alts := [], laidByText := true, laidKinds := [.data, .pinned], laidTests := true, laidLooks := .later }
def CodecNamesUptoCardSaid : Prop := Claim7.holds Tryz.pinned (.plain (OpenSpec.upto codecNamesSpec)) codecNamesUptoCard

/-- THE SECOND FORM's CARD OF 'dovetaillaw08.TermNames'. -/
def termNamesUptoCard : Claim7 := { stood := { row := termNamesUptoRow, standIns := [], harness := (true, "d191c866bdfb5a558cdfa63045f9d9acf3c2cbe27cca67fc2c5ad13fcaa4483b"), looks := true }, kinds := [], alts := [], laidByText := true, laidKinds := [.data, .pinned], laidTests := true, laidLooks := .later }
def TermNamesUptoCardSaid : Prop := Claim7.holds Tryz.pinned (.plain (OpenSpec.upto termNamesSpec)) termNamesUptoCard
end Rows
end Go.Proofs.YtndndphafpgpfaaGreatDoor
