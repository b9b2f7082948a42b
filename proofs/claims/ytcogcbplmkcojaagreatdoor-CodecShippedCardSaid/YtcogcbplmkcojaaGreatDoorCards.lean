/-
  DERIVED. GIVEN WITH THE SEED: THE CARDS: each row of YtcogcbplmkcojaaGreatDoorRows.lean that lists a variable, with what it lists TIED to the program's text (the seventh form; the later family's looks); each row that meets fmt, with fmt's text TOLD by the authors' own Lean function (tested against real Go, not proved from fmt's source: count such statements apart). THE CARD IS WHAT COUNTS. Prove the row's statement (the work); the ties are given (YtcogcbplmkcojaaGreatDoorTie.lean); close each card by the builder's one call (the guide's Derived/Test/ToyasCard.lean, 'card_holds'). Laid BY PROGRAM, IN A SANDBOX (cutbox-door.mjs). By AI agents, Wed Nov 11 2026. No macro, syntax, notation, axiom, sorry.
-/
import Derived.Test.YtcogcbplmkcojaaGreatDoorRows
import GoSem.ClaimSeven
namespace Go.Proofs.YtcogcbplmkcojaaGreatDoor
namespace Rows

/-- THE TIED CARD OF 'dovetaillaw05.IsacheckShipped'. -/
def isacheckShippedCard : Claim7 := { stood := { row := isacheckShippedRow, standIns := [], harness := (true, "20233e931761ae318cc329d5b6025c11ae89f3db9a16458e0776081893da373e"), looks := false }, kinds := [], alts := [], laidByText := true, laidKinds := [.data, .pinned], laidTests := true, laidLooks := .later }
def IsacheckShippedCardSaid : Prop := Claim7.holds Tryz.pinned (.plain (OpenSpec.ofChange isacheckShippedSpec)) isacheckShippedCard

/-- THE TIED CARD OF 'dovetaillaw05.IsacheckTargets'. -/
def isacheckTargetsCard : Claim7 := { stood := { row := isacheckTargetsRow, standIns := [], harness := (true, "20233e931761ae318cc329d5b6025c11ae89f3db9a16458e0776081893da373e"), looks := false }, kinds := [], alts := [], laidByText := true, laidKinds := [.data, .pinned], laidTests := true, laidLooks := .later }
def IsacheckTargetsCardSaid : Prop := Claim7.holds Tryz.pinned (.plain (OpenSpec.ofChange isacheckTargetsSpec)) isacheckTargetsCard

/-- THE TIED CARD OF 'dovetaillaw06.CodecCodes'. -/
def codecCodesCard : Claim7 := { stood := { row := codecCodesRow, standIns := [], harness := (true, "20233e931761ae318cc329d5b6025c11ae89f3db9a16458e0776081893da373e"), looks := false }, kinds := [], alts := [], laidByText := true, laidKinds := [.data, .pinned], laidTests := true, laidLooks := .later }
def CodecCodesCardSaid : Prop := Claim7.holds Tryz.pinned (.plain (OpenSpec.ofChange codecCodesSpec)) codecCodesCard

/-- THE TIED CARD OF 'dovetaillaw06.CodecTargets'. -/
def codecTargetsCard : Claim7 := { stood := { row := codecTargetsRow, standIns := [], harness := (true, "20233e931761ae318cc329d5b6025c11ae89f3db9a16458e0776081893da373e"), looks := false }, kinds := [], alts := [], laidByText := true, laidKinds := [.data, .pinned], laidTests := true, laidLooks := .later }
def CodecTargetsCardSaid : Prop := Claim7.holds Tryz.pinned (.plain (OpenSpec.ofChange codecTargetsSpec)) codecTargetsCard

/-- THE TIED CARD OF 'dovetaillaw06.CodecShipped'. -/
def codecShippedCard : Claim7 := { stood := { row := codecShippedRow, standIns := [], harness := (true, "20233e931761ae318cc329d5b6025c11ae89f3db9a16458e0776081893da373e"), looks := false }, kinds := [], alts := [], laidByText := true, laidKinds := [.data, .pinned], laidTests := true, laidLooks := .later }
def CodecShippedCardSaid : Prop := Claim7.holds Tryz.pinned (.plain (OpenSpec.ofChange codecShippedSpec)) codecShippedCard

/-- THE SECOND FORM's CARD OF 'dovetaillaw05.IsacheckShipped'. -/
def isacheckShippedUptoCard : Claim7 := { stood := { row := isacheckShippedUptoRow, standIns := [], harness := (true, "20233e931761ae318cc329d5b6025c11ae89f3db9a16458e0776081893da373e"), looks := false }, kinds := [], alts := [], laidByText := true, laidKinds := [.data, .pinned], laidTests := true, laidLooks := .later }
def IsacheckShippedUptoCardSaid : Prop := Claim7.holds Tryz.pinned (.plain (OpenSpec.upto isacheckShippedSpec)) isacheckShippedUptoCard

/-- THE SECOND FORM's CARD OF 'dovetaillaw05.IsacheckTargets'. -/
def isacheckTargetsUptoCard : Claim7 := { stood := { row := isacheckTargetsUptoRow, standIns := [], harness := (true, "20233e931761ae318cc329d5b6025c11ae89f3db9a16458e0776081893da373e"), looks := false }, kinds := [], alts := [], laidByText := true, laidKinds := [.data, .pinned], laidTests := true, laidLooks := .later }
def IsacheckTargetsUptoCardSaid : Prop := Claim7.holds Tryz.pinned (.plain (OpenSpec.upto isacheckTargetsSpec)) isacheckTargetsUptoCard

/-- THE SECOND FORM's CARD OF 'dovetaillaw06.CodecCodes'. -/
def codecCodesUptoCard : Claim7 := { stood := { row := codecCodesUptoRow, standIns := [], harness := (true, "20233e931761ae318cc329d5b6025c11ae89f3db9a16458e0776081893da373e"), looks := false }, kinds := [], alts := [], laidByText := true, laidKinds := [.data, .pinned], laidTests := true, laidLooks := .later }
def CodecCodesUptoCardSaid : Prop := Claim7.holds Tryz.pinned (.plain (OpenSpec.upto codecCodesSpec)) codecCodesUptoCard

/-- THE SECOND FORM's CARD OF 'dovetaillaw06.CodecTargets'. -/
def codecTargetsUptoCard : Claim7 := { stood := { row := codecTargetsUptoRow, standIns := [], harness := (true, "20233e931761ae318cc329d5b6025c11ae89f3db9a16458e0776081893da373e"), looks := false }, kinds := [], alts := [], laidByText := true, laidKinds := [.data, .pinned], laidTests := true, laidLooks := .later }
def CodecTargetsUptoCardSaid : Prop := Claim7.holds Tryz.pinned (.plain (OpenSpec.upto codecTargetsSpec)) codecTargetsUptoCard

/-- THE SECOND FORM's CARD OF 'dovetaillaw06.CodecShipped'. -/
def codecShippedUptoCard : Claim7 := { stood := { row := codecShippedUptoRow, standIns := [], harness := (true, "20233e931761ae318cc329d5b6025c11ae89f3db9a16458e0776081893da373e"), looks := false }, kinds := [], alts := [], laidByText := true, laidKinds := [.data, .pinned], laidTests := true, laidLooks := .later }
def CodecShippedUptoCardSaid : Prop := Claim7.holds Tryz.pinned (.plain (OpenSpec.upto codecShippedSpec)) codecShippedUptoCard
end Rows
end Go.Proofs.YtcogcbplmkcojaaGreatDoor
