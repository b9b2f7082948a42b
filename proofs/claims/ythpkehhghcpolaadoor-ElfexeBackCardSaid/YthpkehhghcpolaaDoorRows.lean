/-
  NARROWER THAN 'FOR EVERY INPUT', by the rows' own cells (each row's printed sentence says how): ElfexeBack: laid · GabiNames: laid · GabiChecks: laid · GabiObjects: laid · ElfobjNames: laid · GabiExes: laid · GabiFront: laid.
  DERIVED. THE GIVEN ROWS OF THIS SEAT. 7 by the template 'for every input the law returns true; each argument reads behind the call as it read before'; 0 by the template 'total and deterministic' (their statements: YthpkehhghcpolaaDoorTotals.lean).
  GIVEN WITH THE SEED: the statements are not yours to turn. If you find one false, say at which input.
  Laid BY PROGRAM, IN A SANDBOX (cutbox-rows.mjs): the forced cells as the released guide's own fill.sh prints them over the translation 50eaaa22b42664bd… (all of the seat's roots in one cut). By AI agents, Wed Nov 11 2026. No macro, syntax, notation, axiom, sorry.
-/
import Derived.Test.YthpkehhghcpolaaDoorChecked
import GoSem.Claim
import GoSem.ClaimJoined
import GoSem.ClaimMapViews
import Derived.JoinedTies
import Derived.KernelRfl
namespace Go.Proofs.YthpkehhghcpolaaDoor
/- THE CELL 'sum', in the pinned program and in every row, IS THE sha256 OF THE DUMP (.gsa) THAT YthpkehhghcpolaaDoorProg.lean LOADS. Nothing in Lean hashes anything: it is a label: what it is worth is what the hold of that sum in a sandbox is worth. -/
noncomputable def Tryd.pinned : Pinned := { name := "ythpkehhghcpolaadoor", sum := "50eaaa22b42664bd8a55ccaa69b66a98b1f79cf4f04300c21d461c04a73405bd", checked := Tryd.checked }
namespace Rows
def none {H : Type} : Left H := { results := [], args := [] }

/- WHAT THE LISTED PACKAGE-LEVEL VARIABLES READ AS WHEN THE CALL BEGINS. Each datum BY PROGRAM (the guide's laid-datum.mjs) off the statement by which the dump's own 'gosem.cut.vars' lays the variable. In a bare row this is a premise. The card (YthpkehhghcpolaaDoorCards.lean) ties it to the program's text. -/
def laid_bytes_ErrTooLarge {H : Type} : DataW H := .iface "*errors.errorString" (.ptr (.agg [.lit (.string [98, 121, 116, 101, 115, 46, 66, 117, 102, 102, 101, 114, 58, 32, 116, 111, 111, 32, 108, 97, 114, 103, 101])]))

/-- 'dovetaillaw18.ElfexeBack': WHATEVER THE INPUT: true; the input reads as it did. -/
def elfexeBackSpec : ChangeSpec := { name := "elfexeBack", fn := fun _ => fun
  | [d] => { results := [.lit (.bool true)], args := [d] }
  | _ => none }
def elfexeBackRow : OpenClaim := { program := "ythpkehhghcpolaadoor", sum := "50eaaa22b42664bd8a55ccaa69b66a98b1f79cf4f04300c21d461c04a73405bd", func := "dovetail/dovetaillaw18.ElfexeBack", spec := "elfexeBack", unfollowed := true, recurses := true, named := ["bytes.ErrTooLarge"], apart := false, laid := [("bytes.ErrTooLarge", laid_bytes_ErrTooLarge)] }
def ElfexeBackSaid : Prop := elfexeBackRow.holds Tryd.pinned (OpenSpec.ofChange elfexeBackSpec)

/-- ITS FALSE NEIGHBOUR: 'it returns false'. Refute it at one input. -/
def elfexeBackWrong : ChangeSpec := { name := "elfexeBack", fn := fun _ => fun
  | [d] => { results := [.lit (.bool false)], args := [d] }
  | _ => none }
def ElfexeBackWrongFalsely : Prop := elfexeBackRow.holds Tryd.pinned (OpenSpec.ofChange elfexeBackWrong)

/-- 'dovetaillaw19.GabiNames': WHATEVER THE INPUT: true; the input reads as it did. -/
def gabiNamesSpec : ChangeSpec := { name := "gabiNames", fn := fun _ => fun
  | [] => { results := [.lit (.bool true)], args := [] }
  | _ => none }
def gabiNamesRow : OpenClaim := { program := "ythpkehhghcpolaadoor", sum := "50eaaa22b42664bd8a55ccaa69b66a98b1f79cf4f04300c21d461c04a73405bd", func := "dovetail/dovetaillaw19.GabiNames", spec := "gabiNames", inPlace := ["internal/bytealg.IndexByteString", "internal/bytealg.IndexString", "internal/bytealg.IndexByte"], unfollowed := true, recurses := true, named := ["internal/bytealg.MaxLen", "bytes.ErrTooLarge"], apart := false, laid := [("bytes.ErrTooLarge", laid_bytes_ErrTooLarge)] }
def GabiNamesSaid : Prop := gabiNamesRow.holds Tryd.pinned (OpenSpec.ofChange gabiNamesSpec)

/-- ITS FALSE NEIGHBOUR: 'it returns false'. Refute it at one input. -/
def gabiNamesWrong : ChangeSpec := { name := "gabiNames", fn := fun _ => fun
  | [] => { results := [.lit (.bool false)], args := [] }
  | _ => none }
def GabiNamesWrongFalsely : Prop := gabiNamesRow.holds Tryd.pinned (OpenSpec.ofChange gabiNamesWrong)

/-- 'dovetaillaw19.GabiChecks': WHATEVER THE INPUT: true; the input reads as it did. -/
def gabiChecksSpec : ChangeSpec := { name := "gabiChecks", fn := fun _ => fun
  | [d] => { results := [.lit (.bool true)], args := [d] }
  | _ => none }
def gabiChecksRow : OpenClaim := { program := "ythpkehhghcpolaadoor", sum := "50eaaa22b42664bd8a55ccaa69b66a98b1f79cf4f04300c21d461c04a73405bd", func := "dovetail/dovetaillaw19.GabiChecks", spec := "gabiChecks", inPlace := ["internal/bytealg.IndexByteString", "internal/bytealg.IndexString", "internal/bytealg.IndexByte"], unfollowed := true, recurses := true, named := ["internal/bytealg.MaxLen", "bytes.ErrTooLarge"], apart := false, laid := [("bytes.ErrTooLarge", laid_bytes_ErrTooLarge)] }
def GabiChecksSaid : Prop := gabiChecksRow.holds Tryd.pinned (OpenSpec.ofChange gabiChecksSpec)

/-- ITS FALSE NEIGHBOUR: 'it returns false'. Refute it at one input. -/
def gabiChecksWrong : ChangeSpec := { name := "gabiChecks", fn := fun _ => fun
  | [d] => { results := [.lit (.bool false)], args := [d] }
  | _ => none }
def GabiChecksWrongFalsely : Prop := gabiChecksRow.holds Tryd.pinned (OpenSpec.ofChange gabiChecksWrong)

/-- 'dovetaillaw19.GabiObjects': WHATEVER THE INPUT: true; the input reads as it did. -/
def gabiObjectsSpec : ChangeSpec := { name := "gabiObjects", fn := fun _ => fun
  | [d] => { results := [.lit (.bool true)], args := [d] }
  | _ => none }
def gabiObjectsRow : OpenClaim := { program := "ythpkehhghcpolaadoor", sum := "50eaaa22b42664bd8a55ccaa69b66a98b1f79cf4f04300c21d461c04a73405bd", func := "dovetail/dovetaillaw19.GabiObjects", spec := "gabiObjects", inPlace := ["internal/bytealg.IndexByteString", "internal/bytealg.IndexString", "internal/bytealg.IndexByte"], unfollowed := true, recurses := true, named := ["internal/bytealg.MaxLen", "bytes.ErrTooLarge"], apart := false, laid := [("bytes.ErrTooLarge", laid_bytes_ErrTooLarge)] }
def GabiObjectsSaid : Prop := gabiObjectsRow.holds Tryd.pinned (OpenSpec.ofChange gabiObjectsSpec)

/-- ITS FALSE NEIGHBOUR: 'it returns false'. Refute it at one input. -/
def gabiObjectsWrong : ChangeSpec := { name := "gabiObjects", fn := fun _ => fun
  | [d] => { results := [.lit (.bool false)], args := [d] }
  | _ => none }
def GabiObjectsWrongFalsely : Prop := gabiObjectsRow.holds Tryd.pinned (OpenSpec.ofChange gabiObjectsWrong)

/-- 'dovetaillaw17.ElfobjNames': WHATEVER THE INPUT: true; the input reads as it did. -/
def elfobjNamesSpec : ChangeSpec := { name := "elfobjNames", fn := fun _ => fun
  | [] => { results := [.lit (.bool true)], args := [] }
  | _ => none }
def elfobjNamesRow : OpenClaim := { program := "ythpkehhghcpolaadoor", sum := "50eaaa22b42664bd8a55ccaa69b66a98b1f79cf4f04300c21d461c04a73405bd", func := "dovetail/dovetaillaw17.ElfobjNames", spec := "elfobjNames", inPlace := ["internal/bytealg.IndexByteString", "internal/bytealg.IndexString", "internal/bytealg.IndexByte"], unfollowed := true, recurses := true, named := ["internal/bytealg.MaxLen", "bytes.ErrTooLarge"], apart := false, laid := [("bytes.ErrTooLarge", laid_bytes_ErrTooLarge)] }
def ElfobjNamesSaid : Prop := elfobjNamesRow.holds Tryd.pinned (OpenSpec.ofChange elfobjNamesSpec)

/-- ITS FALSE NEIGHBOUR: 'it returns false'. Refute it at one input. -/
def elfobjNamesWrong : ChangeSpec := { name := "elfobjNames", fn := fun _ => fun
  | [] => { results := [.lit (.bool false)], args := [] }
  | _ => none }
def ElfobjNamesWrongFalsely : Prop := elfobjNamesRow.holds Tryd.pinned (OpenSpec.ofChange elfobjNamesWrong)

/-- 'dovetaillaw19.GabiExes': WHATEVER THE INPUT: true; the input reads as it did. -/
def gabiExesSpec : ChangeSpec := { name := "gabiExes", fn := fun _ => fun
  | [d] => { results := [.lit (.bool true)], args := [d] }
  | _ => none }
def gabiExesRow : OpenClaim := { program := "ythpkehhghcpolaadoor", sum := "50eaaa22b42664bd8a55ccaa69b66a98b1f79cf4f04300c21d461c04a73405bd", func := "dovetail/dovetaillaw19.GabiExes", spec := "gabiExes", inPlace := ["internal/bytealg.IndexByteString", "internal/bytealg.IndexString", "internal/bytealg.IndexByte"], unfollowed := true, recurses := true, named := ["internal/bytealg.MaxLen", "bytes.ErrTooLarge"], apart := false, laid := [("bytes.ErrTooLarge", laid_bytes_ErrTooLarge)] }
def GabiExesSaid : Prop := gabiExesRow.holds Tryd.pinned (OpenSpec.ofChange gabiExesSpec)

/-- ITS FALSE NEIGHBOUR: 'it returns false'. Refute it at one input. -/
def gabiExesWrong : ChangeSpec := { name := "gabiExes", fn := fun _ => fun
  | [d] => { results := [.lit (.bool false)], args := [d] }
  | _ => none }
def GabiExesWrongFalsely : Prop := gabiExesRow.holds Tryd.pinned (OpenSpec.ofChange gabiExesWrong)

/-- 'dovetaillaw19.GabiFront': WHATEVER THE INPUT: true; the input reads as it did. -/
def gabiFrontSpec : ChangeSpec := { name := "gabiFront", fn := fun _ => fun
  | [d1, d2, d3] => { results := [.lit (.bool true)], args := [d1, d2, d3] }
  | _ => none }
def gabiFrontRow : OpenClaim := { program := "ythpkehhghcpolaadoor", sum := "50eaaa22b42664bd8a55ccaa69b66a98b1f79cf4f04300c21d461c04a73405bd", func := "dovetail/dovetaillaw19.GabiFront", spec := "gabiFront", inPlace := ["internal/bytealg.IndexByteString", "internal/bytealg.IndexString", "internal/bytealg.IndexByte"], unfollowed := true, recurses := true, named := ["internal/bytealg.MaxLen", "bytes.ErrTooLarge"], apart := false, laid := [("bytes.ErrTooLarge", laid_bytes_ErrTooLarge)] }
def GabiFrontSaid : Prop := gabiFrontRow.holds Tryd.pinned (OpenSpec.ofChange gabiFrontSpec)

/-- ITS FALSE NEIGHBOUR: 'it returns false'. Refute it at one input. -/
def gabiFrontWrong : ChangeSpec := { name := "gabiFront", fn := fun _ => fun
  | [d1, d2, d3] => { results := [.lit (.bool false)], args := [d1, d2, d3] }
  | _ => none }
def GabiFrontWrongFalsely : Prop := gabiFrontRow.holds Tryd.pinned (OpenSpec.ofChange gabiFrontWrong)

/- THE SECOND FORM. 'bulk': how many values and letters a reading holds, each counted each time it is reached (what is shared counts as often as it is met; a slice's spare places count too). A statement '..UptoSaid' is the law's where the arguments, and the package variables that the reading takes, are together of bulk at most 1048576: NARROWER than '..Said'. Prove '..Said' where nothing that the law and all that it calls make is longer than what came in: it says more and counts as full. Else prove '..UptoSaid'. A law counts once. -/
mutual
def uptoBulk {H : Type} : DataW H → Nat
  | .lit (.string bytes) => bytes.length + 1
  | .lit _ => 1
  | .nil => 1
  | .ptr d => uptoBulk d + 1
  | .slice elems spare => uptoBulkAll elems + uptoBulkAll spare + 1
  | .agg parts => uptoBulkAll parts + 1
  | .iface _ d => uptoBulk d + 1
  | .map entries => uptoBulkEntries entries + 1
  | .held _ => 1
def uptoBulkAll {H : Type} : List (DataW H) → Nat
  | [] => 0
  | d :: r => uptoBulk d + uptoBulkAll r
def uptoBulkEntries {H : Type} : List (Lit × DataW H) → Nat
  | [] => 0
  | x :: r => uptoBulkEntry x + uptoBulkEntries r
def uptoBulkEntry {H : Type} : Lit × DataW H → Nat
  | (.string bytes, d) => bytes.length + uptoBulk d + 1
  | (_, d) => uptoBulk d + 1
 end
def uptoSmall : (H : Type) → List (DataW H) → Bool := fun _ ds => decide (uptoBulkAll ds ≤ 1048576)
def OpenSpec.upto (s : _root_.Go.ChangeSpec) : _root_.Go.OpenSpec := { _root_.Go.OpenSpec.ofChange s with cond := some uptoSmall }

/-- 'dovetaillaw18.ElfexeBack', WHERE WHAT IT READS IS OF BULK AT MOST 1048576: true; the input reads as it did. -/
def elfexeBackUptoRow : OpenClaim := { program := "ythpkehhghcpolaadoor", sum := "50eaaa22b42664bd8a55ccaa69b66a98b1f79cf4f04300c21d461c04a73405bd", func := "dovetail/dovetaillaw18.ElfexeBack", spec := "elfexeBack", unfollowed := true, recurses := true, named := ["bytes.ErrTooLarge"], apart := false, laid := [("bytes.ErrTooLarge", laid_bytes_ErrTooLarge)], narrowed := true }
def ElfexeBackUptoSaid : Prop := elfexeBackUptoRow.holds Tryd.pinned (OpenSpec.upto elfexeBackSpec)

/-- 'dovetaillaw19.GabiNames', WHERE WHAT IT READS IS OF BULK AT MOST 1048576: true; the input reads as it did. -/
def gabiNamesUptoRow : OpenClaim := { program := "ythpkehhghcpolaadoor", sum := "50eaaa22b42664bd8a55ccaa69b66a98b1f79cf4f04300c21d461c04a73405bd", func := "dovetail/dovetaillaw19.GabiNames", spec := "gabiNames", inPlace := ["internal/bytealg.IndexByteString", "internal/bytealg.IndexString", "internal/bytealg.IndexByte"], unfollowed := true, recurses := true, named := ["internal/bytealg.MaxLen", "bytes.ErrTooLarge"], apart := false, laid := [("bytes.ErrTooLarge", laid_bytes_ErrTooLarge)], narrowed := true }
def GabiNamesUptoSaid : Prop := gabiNamesUptoRow.holds Tryd.pinned (OpenSpec.upto gabiNamesSpec)

/-- 'dovetaillaw19.GabiChecks', WHERE WHAT IT READS IS OF BULK AT MOST 1048576: true; the input reads as it did. -/
def gabiChecksUptoRow : OpenClaim := { program := "ythpkehhghcpolaadoor", sum := "50eaaa22b42664bd8a55ccaa69b66a98b1f79cf4f04300c21d461c04a73405bd", func := "dovetail/dovetaillaw19.GabiChecks", spec := "gabiChecks", inPlace := ["internal/bytealg.IndexByteString", "internal/bytealg.IndexString", "internal/bytealg.IndexByte"], unfollowed := true, recurses := true, named := ["internal/bytealg.MaxLen", "bytes.ErrTooLarge"], apart := false, laid := [("bytes.ErrTooLarge", laid_bytes_ErrTooLarge)], narrowed := true }
def GabiChecksUptoSaid : Prop := gabiChecksUptoRow.holds Tryd.pinned (OpenSpec.upto gabiChecksSpec)

/-- 'dovetaillaw19.GabiObjects', WHERE WHAT IT READS IS OF BULK AT MOST 1048576: true; the input reads as it did. -/
def gabiObjectsUptoRow : OpenClaim := { program := "ythpkehhghcpolaadoor", sum := "50eaaa22b42664bd8a55ccaa69b66a98b1f79cf4f04300c21d461c04a73405bd", func := "dovetail/dovetaillaw19.GabiObjects", spec := "gabiObjects", inPlace := ["internal/bytealg.IndexByteString", "internal/bytealg.IndexString", "internal/bytealg.IndexByte"], unfollowed := true, recurses := true, named := ["internal/bytealg.MaxLen", "bytes.ErrTooLarge"], apart := false, laid := [("bytes.ErrTooLarge", laid_bytes_ErrTooLarge)], narrowed := true }
def GabiObjectsUptoSaid : Prop := gabiObjectsUptoRow.holds Tryd.pinned (OpenSpec.upto gabiObjectsSpec)

/-- 'dovetaillaw17.ElfobjNames', WHERE WHAT IT READS IS OF BULK AT MOST 1048576: true; the input reads as it did. -/
def elfobjNamesUptoRow : OpenClaim := { program := "ythpkehhghcpolaadoor", sum := "50eaaa22b42664bd8a55ccaa69b66a98b1f79cf4f04300c21d461c04a73405bd", func := "dovetail/dovetaillaw17.ElfobjNames", spec := "elfobjNames", inPlace := ["internal/bytealg.IndexByteString", "internal/bytealg.IndexString", "internal/bytealg.IndexByte"], unfollowed := true, recurses := true, named := ["internal/bytealg.MaxLen", "bytes.ErrTooLarge"], apart := false, laid := [("bytes.ErrTooLarge", laid_bytes_ErrTooLarge)], narrowed := true }
def ElfobjNamesUptoSaid : Prop := elfobjNamesUptoRow.holds Tryd.pinned (OpenSpec.upto elfobjNamesSpec)

/-- 'dovetaillaw19.GabiExes', WHERE WHAT IT READS IS OF BULK AT MOST 1048576: true; the input reads as it did. -/
def gabiExesUptoRow : OpenClaim := { program := "ythpkehhghcpolaadoor", sum := "50eaaa22b42664bd8a55ccaa69b66a98b1f79cf4f04300c21d461c04a73405bd", func := "dovetail/dovetaillaw19.GabiExes", spec := "gabiExes", inPlace := ["internal/bytealg.IndexByteString", "internal/bytealg.IndexString", "internal/bytealg.IndexByte"], unfollowed := true, recurses := true, named := ["internal/bytealg.MaxLen", "bytes.ErrTooLarge"], apart := false, laid := [("bytes.ErrTooLarge", laid_bytes_ErrTooLarge)], narrowed := true }
def GabiExesUptoSaid : Prop := gabiExesUptoRow.holds Tryd.pinned (OpenSpec.upto gabiExesSpec)

/-- 'dovetaillaw19.GabiFront', WHERE WHAT IT READS IS OF BULK AT MOST 1048576: true; the input reads as it did. -/
def gabiFrontUptoRow : OpenClaim := { program := "ythpkehhghcpolaadoor", sum := "50eaaa22b42664bd8a55ccaa69b66a98b1f79cf4f04300c21d461c04a73405bd", func := "dovetail/dovetaillaw19.GabiFront", spec := "gabiFront", inPlace := ["internal/bytealg.IndexByteString", "internal/bytealg.IndexString", "internal/bytealg.IndexByte"], unfollowed := true, recurses := true, named := ["internal/bytealg.MaxLen", "bytes.ErrTooLarge"], apart := false, laid := [("bytes.ErrTooLarge", laid_bytes_ErrTooLarge)], narrowed := true }
def GabiFrontUptoSaid : Prop := gabiFrontUptoRow.holds Tryd.pinned (OpenSpec.upto gabiFrontSpec)

end Rows
end Go.Proofs.YthpkehhghcpolaaDoor
