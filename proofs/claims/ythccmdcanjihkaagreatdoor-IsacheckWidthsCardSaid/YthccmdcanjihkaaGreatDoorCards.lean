/-
  DERIVED. GIVEN WITH THE SEED: THE CARDS: each row of YthccmdcanjihkaaGreatDoorRows.lean that lists a variable, with what it lists TIED to the program's text (the seventh form; the later family's looks); each row that meets fmt, with fmt's text TOLD by the authors' own Lean function (tested against real Go, not proved from fmt's source: count such statements apart). THE CARD IS WHAT COUNTS. Prove the row's statement (the work); the ties are given (YthccmdcanjihkaaGreatDoorTie.lean); close each card by the builder's one call (the guide's Derived/Test/ToyasCard.lean, 'card_holds'). Laid BY PROGRAM, IN A SANDBOX (cutbox-door.mjs). By AI agents, Wed Nov 11 2026. No macro, syntax, notation, axiom, sorry.
-/
import Derived.Test.YthccmdcanjihkaaGreatDoorRows
import GoSem.ClaimSeven
namespace Go.Proofs.YthccmdcanjihkaaGreatDoor
namespace Rows

/-- THE TIED CARD OF 'dovetaillaw05.IsacheckApart'. -/
def isacheckApartCard : Claim7 := { stood := { row := isacheckApartRow, standIns := [], harness := (true, "e52e0b9e3709c508ba9471e8ee6997d7c058dd9f3c2a33ad914c9cf3802c985b"), looks := false }, kinds := [], alts := [], laidByText := true, laidKinds := [.data, .pinned], laidTests := true, laidLooks := .later }
def IsacheckApartCardSaid : Prop := Claim7.holds Tryz.pinned (.plain (OpenSpec.ofChange isacheckApartSpec)) isacheckApartCard

/-- THE TIED CARD OF 'dovetaillaw05.IsacheckWidths'. -/
def isacheckWidthsCard : Claim7 := { stood := { row := isacheckWidthsRow, standIns := [], harness := (true, "e52e0b9e3709c508ba9471e8ee6997d7c058dd9f3c2a33ad914c9cf3802c985b"), looks := false }, kinds := [], alts := [], laidByText := true, laidKinds := [.data, .pinned], laidTests := true, laidLooks := .later }
def IsacheckWidthsCardSaid : Prop := Claim7.holds Tryz.pinned (.plain (OpenSpec.ofChange isacheckWidthsSpec)) isacheckWidthsCard

/-- THE TIED CARD OF 'dovetaillaw06.CodecValues'. -/
def codecValuesCard : Claim7 := { stood := { row := codecValuesRow, standIns := [], harness := (true, "e52e0b9e3709c508ba9471e8ee6997d7c058dd9f3c2a33ad914c9cf3802c985b"), looks := false }, kinds := [], alts := [], laidByText := true, laidKinds := [.data, .pinned], laidTests := true, laidLooks := .later }
def CodecValuesCardSaid : Prop := Claim7.holds Tryz.pinned (.plain (OpenSpec.ofChange codecValuesSpec)) codecValuesCard

/-- THE SECOND FORM's CARD OF 'dovetaillaw05.IsacheckApart'. -/
def isacheckApartUptoCard : Claim7 := { stood := { row := isacheckApartUptoRow, standIns := [], harness := (true, "e52e0b9e3709c508ba9471e8ee6997d7c058dd9f3c2a33ad914c9cf3802c985b"), looks := false }, kinds := [], alts := [], laidByText := true, laidKinds := [.data, .pinned], laidTests := true, laidLooks := .later }
def IsacheckApartUptoCardSaid : Prop := Claim7.holds Tryz.pinned (.plain (OpenSpec.upto isacheckApartSpec)) isacheckApartUptoCard

/-- THE SECOND FORM's CARD OF 'dovetaillaw05.IsacheckWidths'. -/
def isacheckWidthsUptoCard : Claim7 := { stood := { row := isacheckWidthsUptoRow, standIns := [], harness := (true, "e52e0b9e3709c508ba9471e8ee6997d7c058dd9f3c2a33ad914c9cf3802c985b"), looks := false }, kinds := [], alts := [], laidByText := true, laidKinds := [.data, .pinned], laidTests := true, laidLooks := .later }
def IsacheckWidthsUptoCardSaid : Prop := Claim7.holds Tryz.pinned (.plain (OpenSpec.upto isacheckWidthsSpec)) isacheckWidthsUptoCard

/-- THE SECOND FORM's CARD OF 'dovetaillaw06.CodecValues'. -/
def codecValuesUptoCard : Claim7 := { stood := { row := codecValuesUptoRow, standIns := [], harness := (true, "e52e0b9e3709c508ba9471e8ee6997d7c058dd9f3c2a33ad914c9cf3802c985b"), looks := false }, kinds := [], alts := [], laidByText := true, laidKinds := [.data, .pinned], laidTests := true, laidLooks := .later }
def CodecValuesUptoCardSaid : Prop := Claim7.holds Tryz.pinned (.plain (OpenSpec.upto codecValuesSpec)) codecValuesUptoCard
end Rows
end Go.Proofs.YthccmdcanjihkaaGreatDoor
