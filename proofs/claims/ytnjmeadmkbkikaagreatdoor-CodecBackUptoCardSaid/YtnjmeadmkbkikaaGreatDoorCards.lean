/-
  DERIVED. GIVEN WITH THE SEED: THE CARDS: each row of YtnjmeadmkbkikaaGreatDoorRows.lean that lists a variable, with what it lists TIED to the program's text (the seventh form; the later family's looks); each row that meets fmt, with fmt's text TOLD by the authors' own Lean function (tested against real Go, not proved from fmt's source: count such statements apart). THE CARD IS WHAT COUNTS. Prove the row's statement (the work); the ties are given (YtnjmeadmkbkikaaGreatDoorTie.lean); close each card by the builder's one call (the guide's Derived/Test/ToyasCard.lean, 'card_holds'). Laid BY PROGRAM, IN A SANDBOX (cutbox-door.mjs). By AI agents, Wed Nov 11 2026. No macro, syntax, notation, axiom, sorry.
-/
import Derived.Test.YtnjmeadmkbkikaaGreatDoorRows
import GoSem.ClaimSeven
namespace Go.Proofs.YtnjmeadmkbkikaaGreatDoor
namespace Rows

/-- THE TIED CARD OF 'dovetaillaw05.IsacheckApart'. -/
def isacheckApartCard : Claim7 := { stood := { row := isacheckApartRow, standIns := [], harness := (true, "84460248c2960802f50f5133a21234e2df3d299be365116a7f87c8ce176d8230"), looks := false }, kinds := [], alts := [], laidByText := true, laidKinds := [.data, .pinned], laidTests := true, laidLooks := .later }
def IsacheckApartCardSaid : Prop := Claim7.holds Tryz.pinned (.plain (OpenSpec.ofChange isacheckApartSpec)) isacheckApartCard

/-- THE TIED CARD OF 'dovetaillaw06.CodecBack'. -/
def codecBackCard : Claim7 := { stood := { row := codecBackRow, standIns := [], harness := (true, "84460248c2960802f50f5133a21234e2df3d299be365116a7f87c8ce176d8230"), looks := false }, kinds := [], alts := [], laidByText := true, laidKinds := [.data, .pinned], laidTests := true, laidLooks := .later }
def CodecBackCardSaid : Prop := Claim7.holds Tryz.pinned (.plain (OpenSpec.ofChange codecBackSpec)) codecBackCard

/-- THE TIED CARD OF 'dovetaillaw06.CodecValues'. -/
def codecValuesCard : Claim7 := { stood := { row := codecValuesRow, standIns := [], harness := (true, "84460248c2960802f50f5133a21234e2df3d299be365116a7f87c8ce176d8230"), looks := false }, kinds := [], alts := [], laidByText := true, laidKinds := [.data, .pinned], laidTests := true, laidLooks := .later }
def CodecValuesCardSaid : Prop := Claim7.holds Tryz.pinned (.plain (OpenSpec.ofChange codecValuesSpec)) codecValuesCard

/-- THE TIED CARD OF 'dovetaillaw06.CodecCodes'. -/
def codecCodesCard : Claim7 := { stood := { row := codecCodesRow, standIns := [], harness := (true, "84460248c2960802f50f5133a21234e2df3d299be365116a7f87c8ce176d8230"), looks := false }, kinds := [], alts := [], laidByText := true, laidKinds := [.data, .pinned], laidTests := true, laidLooks := .later }
def CodecCodesCardSaid : Prop := Claim7.holds Tryz.pinned (.plain (OpenSpec.ofChange codecCodesSpec)) codecCodesCard

/-- THE TIED CARD OF 'dovetaillaw06.CodecForth'. -/
def codecForthCard : Claim7 := { stood := { row := codecForthRow, standIns := [], harness := (true, "84460248c2960802f50f5133a21234e2df3d299be365116a7f87c8ce176d8230"), looks := false }, kinds := [], alts := [], laidByText := true, laidKinds := [.data, .pinned], laidTests := true, laidLooks := .later }
def CodecForthCardSaid : Prop := Claim7.holds Tryz.pinned (.plain (OpenSpec.ofChange codecForthSpec)) codecForthCard

/-- THE SECOND FORM's CARD OF 'dovetaillaw05.IsacheckApart'. -/
def isacheckApartUptoCard : Claim7 := { stood := { row := isacheckApartUptoRow, standIns := [], harness := (true, "84460248c2960802f50f5133a21234e2df3d299be365116a7f87c8ce176d8230"), looks := false }, kinds := [], alts := [], laidByText := true, laidKinds := [.data, .pinned], laidTests := true, laidLooks := .later }
def IsacheckApartUptoCardSaid : Prop := Claim7.holds Tryz.pinned (.plain (OpenSpec.upto isacheckApartSpec)) isacheckApartUptoCard

/-- THE SECOND FORM's CARD OF 'dovetaillaw06.CodecBack'. -/
def codecBackUptoCard : Claim7 := { stood := { row := codecBackUptoRow, standIns := [], harness := (true, "84460248c2960802f50f5133a21234e2df3d299be365116a7f87c8ce176d8230"), looks := false }, kinds := [], alts := [], laidByText := true, laidKinds := [.data, .pinned], laidTests := true, laidLooks := .later }
def CodecBackUptoCardSaid : Prop := Claim7.holds Tryz.pinned (.plain (OpenSpec.upto codecBackSpec)) codecBackUptoCard

/-- THE SECOND FORM's CARD OF 'dovetaillaw06.CodecValues'. -/
def codecValuesUptoCard : Claim7 := { stood := { row := codecValuesUptoRow, standIns := [], harness := (true, "84460248c2960802f50f5133a21234e2df3d299be365116a7f87c8ce176d8230"), looks := false }, kinds := [], alts := [], laidByText := true, laidKinds := [.data, .pinned], laidTests := true, laidLooks := .later }
def CodecValuesUptoCardSaid : Prop := Claim7.holds Tryz.pinned (.plain (OpenSpec.upto codecValuesSpec)) codecValuesUptoCard

/-- THE SECOND FORM's CARD OF 'dovetaillaw06.CodecCodes'. -/
def codecCodesUptoCard : Claim7 := { stood := { row := codecCodesUptoRow, standIns := [], harness := (true, "84460248c2960802f50f5133a21234e2df3d299be365116a7f87c8ce176d8230"), looks := false }, kinds := [], alts := [], laidByText := true, laidKinds := [.data, .pinned], laidTests := true, laidLooks := .later }
def CodecCodesUptoCardSaid : Prop := Claim7.holds Tryz.pinned (.plain (OpenSpec.upto codecCodesSpec)) codecCodesUptoCard

/-- THE SECOND FORM's CARD OF 'dovetaillaw06.CodecForth'. -/
def codecForthUptoCard : Claim7 := { stood := { row := codecForthUptoRow, standIns := [], harness := (true, "84460248c2960802f50f5133a21234e2df3d299be365116a7f87c8ce176d8230"), looks := false }, kinds := [], alts := [], laidByText := true, laidKinds := [.data, .pinned], laidTests := true, laidLooks := .later }
def CodecForthUptoCardSaid : Prop := Claim7.holds Tryz.pinned (.plain (OpenSpec.upto codecForthSpec)) codecForthUptoCard
end Rows
end Go.Proofs.YtnjmeadmkbkikaaGreatDoor
