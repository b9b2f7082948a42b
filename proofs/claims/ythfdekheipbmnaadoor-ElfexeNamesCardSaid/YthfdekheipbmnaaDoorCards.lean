/-
  DERIVED. GIVEN WITH THE SEED: THE CARDS: each row of YthfdekheipbmnaaDoorRows.lean that lists a variable, with what it lists TIED to the program's text (the seventh form; the later family's looks); each row that meets fmt, with fmt's text TOLD by the authors' own Lean function (tested against real Go, not proved from fmt's source: count such statements apart). THE CARD IS WHAT COUNTS. Prove the row's statement (the work); the ties are given (YthfdekheipbmnaaDoorTie.lean); close each card by the builder's one call (the guide's Derived/Test/ToyasCard.lean, 'card_holds'). Laid BY PROGRAM, IN A SANDBOX (cutbox-door.mjs). By AI agents, Wed Nov 11 2026. No macro, syntax, notation, axiom, sorry.
-/
import Derived.Test.YthfdekheipbmnaaDoorRows
import GoSem.ClaimSeven
namespace Go.Proofs.YthfdekheipbmnaaDoor
namespace Rows

/-- THE TIED CARD OF 'dovetaillaw18.ElfexeNames'. -/
def elfexeNamesCard : Claim7 := { stood := { row := elfexeNamesRow, standIns := [], harness := (true, "054c065f99994965cb78747f67bc22261c8e9ce9e43a92db4063e40ec9c1cdb1"), looks := true }, kinds := [], alts := [], laidByText := true, laidKinds := [.sentinel], laidTests := true, laidLooks := .later }
def ElfexeNamesCardSaid : Prop := Claim7.holds Tryd.pinned (.plain (OpenSpec.ofChange elfexeNamesSpec)) elfexeNamesCard

/-- THE SECOND FORM's CARD OF 'dovetaillaw18.ElfexeNames'. -/
def elfexeNamesUptoCard : Claim7 := { stood := { row := elfexeNamesUptoRow, standIns := [], harness := (true, "054c065f99994965cb78747f67bc22261c8e9ce9e43a92db4063e40ec9c1cdb1"), looks := true }, kinds := [], alts := [], laidByText := true, laidKinds := [.sentinel], laidTests := true, laidLooks := .later }
def ElfexeNamesUptoCardSaid : Prop := Claim7.holds Tryd.pinned (.plain (OpenSpec.upto elfexeNamesSpec)) elfexeNamesUptoCard
end Rows
end Go.Proofs.YthfdekheipbmnaaDoor
