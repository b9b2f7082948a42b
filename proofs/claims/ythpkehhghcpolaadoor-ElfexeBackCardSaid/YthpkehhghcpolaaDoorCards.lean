/-
  DERIVED. GIVEN WITH THE SEED: THE CARDS: each row of YthpkehhghcpolaaDoorRows.lean that lists a variable, with what it lists TIED to the program's text (the seventh form; the later family's looks); each row that meets fmt, with fmt's text TOLD by the authors' own Lean function (tested against real Go, not proved from fmt's source: count such statements apart). THE CARD IS WHAT COUNTS. Prove the row's statement (the work); the ties are given (YthpkehhghcpolaaDoorTie.lean); close each card by the builder's one call (the guide's Derived/Test/ToyasCard.lean, 'card_holds'). Laid BY PROGRAM, IN A SANDBOX (cutbox-door.mjs). By AI agents, Wed Nov 11 2026. No macro, syntax, notation, axiom, sorry.
-/
import Derived.Test.YthpkehhghcpolaaDoorRows
import GoSem.ClaimSeven
namespace Go.Proofs.YthpkehhghcpolaaDoor
namespace Rows

/-- THE TIED CARD OF 'dovetaillaw18.ElfexeBack'. -/
def elfexeBackCard : Claim7 := { stood := { row := elfexeBackRow, standIns := [], harness := (true, "562b759f6ef98129bde84e0dd3753e27846d1af8ef21b32737727454d1582478"), looks := true }, kinds := [], alts := [], laidByText := true, laidKinds := [.sentinel], laidTests := true, laidLooks := .later }
def ElfexeBackCardSaid : Prop := Claim7.holds Tryd.pinned (.plain (OpenSpec.ofChange elfexeBackSpec)) elfexeBackCard

/-- THE TIED CARD OF 'dovetaillaw19.GabiNames'. -/
def gabiNamesCard : Claim7 := { stood := { row := gabiNamesRow, standIns := [], harness := (true, "562b759f6ef98129bde84e0dd3753e27846d1af8ef21b32737727454d1582478"), looks := true }, kinds := [], alts := [], laidByText := true, laidKinds := [.sentinel], laidTests := true, laidLooks := .later }
def GabiNamesCardSaid : Prop := Claim7.holds Tryd.pinned (.plain (OpenSpec.ofChange gabiNamesSpec)) gabiNamesCard

/-- THE TIED CARD OF 'dovetaillaw19.GabiChecks'. -/
def gabiChecksCard : Claim7 := { stood := { row := gabiChecksRow, standIns := [], harness := (true, "562b759f6ef98129bde84e0dd3753e27846d1af8ef21b32737727454d1582478"), looks := true }, kinds := [], alts := [], laidByText := true, laidKinds := [.sentinel], laidTests := true, laidLooks := .later }
def GabiChecksCardSaid : Prop := Claim7.holds Tryd.pinned (.plain (OpenSpec.ofChange gabiChecksSpec)) gabiChecksCard

/-- THE TIED CARD OF 'dovetaillaw19.GabiObjects'. -/
def gabiObjectsCard : Claim7 := { stood := { row := gabiObjectsRow, standIns := [], harness := (true, "562b759f6ef98129bde84e0dd3753e27846d1af8ef21b32737727454d1582478"), looks := true }, kinds := [], alts := [], laidByText := true, laidKinds := [.sentinel], laidTests := true, laidLooks := .later }
def GabiObjectsCardSaid : Prop := Claim7.holds Tryd.pinned (.plain (OpenSpec.ofChange gabiObjectsSpec)) gabiObjectsCard

/-- THE TIED CARD OF 'dovetaillaw17.ElfobjNames'. -/
def elfobjNamesCard : Claim7 := { stood := { row := elfobjNamesRow, standIns := [], harness := (true, "562b759f6ef98129bde84e0dd3753e27846d1af8ef21b32737727454d1582478"), looks := true }, kinds := [], alts := [], laidByText := true, laidKinds := [.sentinel], laidTests := true, laidLooks := .later }
def ElfobjNamesCardSaid : Prop := Claim7.holds Tryd.pinned (.plain (OpenSpec.ofChange elfobjNamesSpec)) elfobjNamesCard

/-- THE TIED CARD OF 'dovetaillaw19.GabiExes'. -/
def gabiExesCard : Claim7 := { stood := { row := gabiExesRow, standIns := [], harness := (true, "562b759f6ef98129bde84e0dd3753e27846d1af8ef21b32737727454d1582478"), looks := true }, kinds := [], alts := [], laidByText := true, laidKinds := [.sentinel], laidTests := true, laidLooks := .later }
def GabiExesCardSaid : Prop := Claim7.holds Tryd.pinned (.plain (OpenSpec.ofChange gabiExesSpec)) gabiExesCard

/-- THE TIED CARD OF 'dovetaillaw19.GabiFront'. -/
def gabiFrontCard : Claim7 := { stood := { row := gabiFrontRow, standIns := [], harness := (true, "562b759f6ef98129bde84e0dd3753e27846d1af8ef21b32737727454d1582478"), looks := true }, kinds := [], alts := [], laidByText := true, laidKinds := [.sentinel], laidTests := true, laidLooks := .later }
def GabiFrontCardSaid : Prop := Claim7.holds Tryd.pinned (.plain (OpenSpec.ofChange gabiFrontSpec)) gabiFrontCard

/-- THE SECOND FORM's CARD OF 'dovetaillaw18.ElfexeBack'. -/
def elfexeBackUptoCard : Claim7 := { stood := { row := elfexeBackUptoRow, standIns := [], harness := (true, "562b759f6ef98129bde84e0dd3753e27846d1af8ef21b32737727454d1582478"), looks := true }, kinds := [], alts := [], laidByText := true, laidKinds := [.sentinel], laidTests := true, laidLooks := .later }
def ElfexeBackUptoCardSaid : Prop := Claim7.holds Tryd.pinned (.plain (OpenSpec.upto elfexeBackSpec)) elfexeBackUptoCard

/-- THE SECOND FORM's CARD OF 'dovetaillaw19.GabiNames'. -/
def gabiNamesUptoCard : Claim7 := { stood := { row := gabiNamesUptoRow, standIns := [], harness := (true, "562b759f6ef98129bde84e0dd3753e27846d1af8ef21b32737727454d1582478"), looks := true }, kinds := [], alts := [], laidByText := true, laidKinds := [.sentinel], laidTests := true, laidLooks := .later }
def GabiNamesUptoCardSaid : Prop := Claim7.holds Tryd.pinned (.plain (OpenSpec.upto gabiNamesSpec)) gabiNamesUptoCard

/-- THE SECOND FORM's CARD OF 'dovetaillaw19.GabiChecks'. -/
def gabiChecksUptoCard : Claim7 := { stood := { row := gabiChecksUptoRow, standIns := [], harness := (true, "562b759f6ef98129bde84e0dd3753e27846d1af8ef21b32737727454d1582478"), looks := true }, kinds := [], alts := [], laidByText := true, laidKinds := [.sentinel], laidTests := true, laidLooks := .later }
def GabiChecksUptoCardSaid : Prop := Claim7.holds Tryd.pinned (.plain (OpenSpec.upto gabiChecksSpec)) gabiChecksUptoCard

/-- THE SECOND FORM's CARD OF 'dovetaillaw19.GabiObjects'. -/
def gabiObjectsUptoCard : Claim7 := { stood := { row := gabiObjectsUptoRow, standIns := [], harness := (true, "562b759f6ef98129bde84e0dd3753e27846d1af8ef21b32737727454d1582478"), looks := true }, kinds := [], alts := [], laidByText := true, laidKinds := [.sentinel], laidTests := true, laidLooks := .later }
def GabiObjectsUptoCardSaid : Prop := Claim7.holds Tryd.pinned (.plain (OpenSpec.upto gabiObjectsSpec)) gabiObjectsUptoCard

/-- THE SECOND FORM's CARD OF 'dovetaillaw17.ElfobjNames'. -/
def elfobjNamesUptoCard : Claim7 := { stood := { row := elfobjNamesUptoRow, standIns := [], harness := (true, "562b759f6ef98129bde84e0dd3753e27846d1af8ef21b32737727454d1582478"), looks := true }, kinds := [], alts := [], laidByText := true, laidKinds := [.sentinel], laidTests := true, laidLooks := .later }
def ElfobjNamesUptoCardSaid : Prop := Claim7.holds Tryd.pinned (.plain (OpenSpec.upto elfobjNamesSpec)) elfobjNamesUptoCard

/-- THE SECOND FORM's CARD OF 'dovetaillaw19.GabiExes'. -/
def gabiExesUptoCard : Claim7 := { stood := { row := gabiExesUptoRow, standIns := [], harness := (true, "562b759f6ef98129bde84e0dd3753e27846d1af8ef21b32737727454d1582478"), looks := true }, kinds := [], alts := [], laidByText := true, laidKinds := [.sentinel], laidTests := true, laidLooks := .later }
def GabiExesUptoCardSaid : Prop := Claim7.holds Tryd.pinned (.plain (OpenSpec.upto gabiExesSpec)) gabiExesUptoCard

/-- THE SECOND FORM's CARD OF 'dovetaillaw19.GabiFront'. -/
def gabiFrontUptoCard : Claim7 := { stood := { row := gabiFrontUptoRow, standIns := [], harness := (true, "562b759f6ef98129bde84e0dd3753e27846d1af8ef21b32737727454d1582478"), looks := true }, kinds := [], alts := [], laidByText := true, laidKinds := [.sentinel], laidTests := true, laidLooks := .later }
def GabiFrontUptoCardSaid : Prop := Claim7.holds Tryd.pinned (.plain (OpenSpec.upto gabiFrontSpec)) gabiFrontUptoCard
end Rows
end Go.Proofs.YthpkehhghcpolaaDoor
