/-
  NARROWER THAN 'FOR EVERY INPUT', by the rows' own cells (each row's printed sentence says how): IsacheckShipped: laid · IsacheckTargets: laid · CodecCodes: loops, laid · CodecTargets: laid · CodecShipped: laid.
  DERIVED. THE GIVEN ROWS OF THIS SEAT. 5 by the template 'for every input the law returns true; each argument reads behind the call as it read before'; 0 by the template 'total and deterministic' (their statements: YtcogcbplmkcojaaGreatDoorTotals.lean).
  GIVEN WITH THE SEED: the statements are not yours to turn. If you find one false, say at which input.
  Laid BY PROGRAM, IN A SANDBOX (cutbox-rows.mjs): the forced cells as the released guide's own fill.sh prints them over the translation 93af48c49a772292… (all of the seat's roots in one cut). By AI agents, Wed Nov 11 2026. No macro, syntax, notation, axiom, sorry.
-/
import Derived.Test.YtcogcbplmkcojaaGreatDoorChecked
import GoSem.PinnedTables
import GoSem.Claim
import GoSem.ClaimJoined
import GoSem.ClaimMapViews
import Derived.JoinedTies
import Derived.KernelRfl
namespace Go.Proofs.YtcogcbplmkcojaaGreatDoor
/- THE CELL 'sum', in the pinned program and in every row, IS THE sha256 OF THE DUMP (.gsa) THAT YtcogcbplmkcojaaGreatDoorProg.lean LOADS. Nothing in Lean hashes anything: it is a label: what it is worth is what the hold of that sum in a sandbox is worth. -/
noncomputable def Tryz.pinned : Pinned := { name := "ytcogcbplmkcojaagreatdoor", sum := "93af48c49a7722924dc974e10039830ed35c2fb7d54898e53ae614bd45ae13f3", checked := Tryz.checked }
namespace Rows
def none {H : Type} : Left H := { results := [], args := [] }

/- WHAT THE LISTED PACKAGE-LEVEL VARIABLES READ AS WHEN THE CALL BEGINS. Each datum BY PROGRAM (the guide's laid-datum.mjs) off the statement by which the dump's own 'gosem.cut.vars' lays the variable. In a bare row this is a premise. The card (YtcogcbplmkcojaaGreatDoorCards.lean) ties it to the program's text. -/
def laid_unicode_utf8_acceptRanges {H : Type} : DataW H := .agg [.agg [.lit (.int .u8 128), .lit (.int .u8 191)], .agg [.lit (.int .u8 160), .lit (.int .u8 191)], .agg [.lit (.int .u8 128), .lit (.int .u8 159)], .agg [.lit (.int .u8 144), .lit (.int .u8 191)], .agg [.lit (.int .u8 128), .lit (.int .u8 143)], .agg [.lit (.int .u8 0), .lit (.int .u8 0)], .agg [.lit (.int .u8 0), .lit (.int .u8 0)], .agg [.lit (.int .u8 0), .lit (.int .u8 0)], .agg [.lit (.int .u8 0), .lit (.int .u8 0)], .agg [.lit (.int .u8 0), .lit (.int .u8 0)], .agg [.lit (.int .u8 0), .lit (.int .u8 0)], .agg [.lit (.int .u8 0), .lit (.int .u8 0)], .agg [.lit (.int .u8 0), .lit (.int .u8 0)], .agg [.lit (.int .u8 0), .lit (.int .u8 0)], .agg [.lit (.int .u8 0), .lit (.int .u8 0)], .agg [.lit (.int .u8 0), .lit (.int .u8 0)]]
/-- One of Go's own tables, pinned by name: the form's constant. -/
def laid_unicode_utf8_first : DataW Unit := Go.Pinned.utf8First

/-- 'dovetaillaw05.IsacheckShipped': WHATEVER THE INPUT: true; the input reads as it did. -/
def isacheckShippedSpec : ChangeSpec := { name := "isacheckShipped", fn := fun _ => fun
  | [] => { results := [.lit (.bool true)], args := [] }
  | _ => none }
def isacheckShippedRow : OpenClaim := { program := "ytcogcbplmkcojaagreatdoor", sum := "93af48c49a7722924dc974e10039830ed35c2fb7d54898e53ae614bd45ae13f3", func := "dovetail/dovetaillaw05.IsacheckShipped", spec := "isacheckShipped", inPlace := ["internal/bytealg.IndexByteString", "internal/bytealg.IndexString"], unfollowed := true, recurses := true, named := ["unicode/utf8.first", "unicode/utf8.acceptRanges", "internal/bytealg.MaxLen"], apart := false, laid := [("unicode/utf8.acceptRanges", laid_unicode_utf8_acceptRanges), ("unicode/utf8.first", laid_unicode_utf8_first)] }
def IsacheckShippedSaid : Prop := isacheckShippedRow.holds Tryz.pinned (OpenSpec.ofChange isacheckShippedSpec)

/-- ITS FALSE NEIGHBOUR: 'it returns false'. Refute it at one input. -/
def isacheckShippedWrong : ChangeSpec := { name := "isacheckShipped", fn := fun _ => fun
  | [] => { results := [.lit (.bool false)], args := [] }
  | _ => none }
def IsacheckShippedWrongFalsely : Prop := isacheckShippedRow.holds Tryz.pinned (OpenSpec.ofChange isacheckShippedWrong)

/-- 'dovetaillaw05.IsacheckTargets': WHATEVER THE INPUT: true; the input reads as it did. -/
def isacheckTargetsSpec : ChangeSpec := { name := "isacheckTargets", fn := fun _ => fun
  | [d] => { results := [.lit (.bool true)], args := [d] }
  | _ => none }
def isacheckTargetsRow : OpenClaim := { program := "ytcogcbplmkcojaagreatdoor", sum := "93af48c49a7722924dc974e10039830ed35c2fb7d54898e53ae614bd45ae13f3", func := "dovetail/dovetaillaw05.IsacheckTargets", spec := "isacheckTargets", inPlace := ["internal/bytealg.IndexByteString", "internal/bytealg.IndexString"], unfollowed := true, recurses := true, named := ["unicode/utf8.first", "unicode/utf8.acceptRanges", "internal/bytealg.MaxLen"], apart := false, laid := [("unicode/utf8.acceptRanges", laid_unicode_utf8_acceptRanges), ("unicode/utf8.first", laid_unicode_utf8_first)] }
def IsacheckTargetsSaid : Prop := isacheckTargetsRow.holds Tryz.pinned (OpenSpec.ofChange isacheckTargetsSpec)

/-- ITS FALSE NEIGHBOUR: 'it returns false'. Refute it at one input. -/
def isacheckTargetsWrong : ChangeSpec := { name := "isacheckTargets", fn := fun _ => fun
  | [d] => { results := [.lit (.bool false)], args := [d] }
  | _ => none }
def IsacheckTargetsWrongFalsely : Prop := isacheckTargetsRow.holds Tryz.pinned (OpenSpec.ofChange isacheckTargetsWrong)

/-- 'dovetaillaw06.CodecCodes': WHATEVER THE INPUT: true; the input reads as it did. -/
def codecCodesSpec : ChangeSpec := { name := "codecCodes", fn := fun _ => fun
  | [d1, d2, d3] => { results := [.lit (.bool true)], args := [d1, d2, d3] }
  | _ => none }
def codecCodesRow : OpenClaim := { program := "ytcogcbplmkcojaagreatdoor", sum := "93af48c49a7722924dc974e10039830ed35c2fb7d54898e53ae614bd45ae13f3", func := "dovetail/dovetaillaw06.CodecCodes", spec := "codecCodes", inPlace := ["internal/bytealg.IndexByteString", "internal/bytealg.IndexString"], unfollowed := true, recurses := true, named := ["unicode/utf8.first", "unicode/utf8.acceptRanges", "internal/bytealg.MaxLen"], loops := true, apart := false, laid := [("unicode/utf8.acceptRanges", laid_unicode_utf8_acceptRanges), ("unicode/utf8.first", laid_unicode_utf8_first)] }
def CodecCodesSaid : Prop := codecCodesRow.holds Tryz.pinned (OpenSpec.ofChange codecCodesSpec)

/-- ITS FALSE NEIGHBOUR: 'it returns false'. Refute it at one input. -/
def codecCodesWrong : ChangeSpec := { name := "codecCodes", fn := fun _ => fun
  | [d1, d2, d3] => { results := [.lit (.bool false)], args := [d1, d2, d3] }
  | _ => none }
def CodecCodesWrongFalsely : Prop := codecCodesRow.holds Tryz.pinned (OpenSpec.ofChange codecCodesWrong)

/-- 'dovetaillaw06.CodecTargets': WHATEVER THE INPUT: true; the input reads as it did. -/
def codecTargetsSpec : ChangeSpec := { name := "codecTargets", fn := fun _ => fun
  | [d1, d2, d3] => { results := [.lit (.bool true)], args := [d1, d2, d3] }
  | _ => none }
def codecTargetsRow : OpenClaim := { program := "ytcogcbplmkcojaagreatdoor", sum := "93af48c49a7722924dc974e10039830ed35c2fb7d54898e53ae614bd45ae13f3", func := "dovetail/dovetaillaw06.CodecTargets", spec := "codecTargets", inPlace := ["internal/bytealg.IndexByteString", "internal/bytealg.IndexString"], unfollowed := true, recurses := true, named := ["unicode/utf8.first", "unicode/utf8.acceptRanges", "internal/bytealg.MaxLen"], apart := false, laid := [("unicode/utf8.acceptRanges", laid_unicode_utf8_acceptRanges), ("unicode/utf8.first", laid_unicode_utf8_first)] }
def CodecTargetsSaid : Prop := codecTargetsRow.holds Tryz.pinned (OpenSpec.ofChange codecTargetsSpec)

/-- ITS FALSE NEIGHBOUR: 'it returns false'. Refute it at one input. -/
def codecTargetsWrong : ChangeSpec := { name := "codecTargets", fn := fun _ => fun
  | [d1, d2, d3] => { results := [.lit (.bool false)], args := [d1, d2, d3] }
  | _ => none }
def CodecTargetsWrongFalsely : Prop := codecTargetsRow.holds Tryz.pinned (OpenSpec.ofChange codecTargetsWrong)

/-- 'dovetaillaw06.CodecShipped': WHATEVER THE INPUT: true; the input reads as it did. -/
def codecShippedSpec : ChangeSpec := { name := "codecShipped", fn := fun _ => fun
  | [d1, d2] => { results := [.lit (.bool true)], args := [d1, d2] }
  | _ => none }
def codecShippedRow : OpenClaim := { program := "ytcogcbplmkcojaagreatdoor", sum := "93af48c49a7722924dc974e10039830ed35c2fb7d54898e53ae614bd45ae13f3", func := "dovetail/dovetaillaw06.CodecShipped", spec := "codecShipped", inPlace := ["internal/bytealg.IndexByteString", "internal/bytealg.IndexString"], unfollowed := true, recurses := true, named := ["unicode/utf8.first", "unicode/utf8.acceptRanges", "internal/bytealg.MaxLen"], apart := false, laid := [("unicode/utf8.acceptRanges", laid_unicode_utf8_acceptRanges), ("unicode/utf8.first", laid_unicode_utf8_first)] }
def CodecShippedSaid : Prop := codecShippedRow.holds Tryz.pinned (OpenSpec.ofChange codecShippedSpec)

/-- ITS FALSE NEIGHBOUR: 'it returns false'. Refute it at one input. -/
def codecShippedWrong : ChangeSpec := { name := "codecShipped", fn := fun _ => fun
  | [d1, d2] => { results := [.lit (.bool false)], args := [d1, d2] }
  | _ => none }
def CodecShippedWrongFalsely : Prop := codecShippedRow.holds Tryz.pinned (OpenSpec.ofChange codecShippedWrong)

/- THE SECOND FORM. 'bulk': how many values and letters a reading holds, each counted each time it is reached (what is shared counts as often as it is met; a slice's spare places count too). A statement '..UptoSaid' is the law's where the arguments, and the package variables that the reading takes, are together of bulk at most 1048576: NARROWER than '..Said'. Prove '..Said' where nothing that the law and all that it calls make is longer than what came in: it says more and counts as full. Else prove '..UptoSaid'. A law counts once. -/
mutual
def uptoBulk {H : Type} : DataW H → Nat
  | .lit (.string bytes) => bytes.length + 1
  | .lit _ => 1
  | .nil => 1
  | .ptr d => uptoBulk d + 1
  | .slice elems spare => uptoBulkAll elems + uptoBulkAll spare + 1
  | .agg parts => uptoBulkAll parts + 1
  | .iface _ d => uptoBulk d + 1
  | .map entries => uptoBulkEntries entries + 1
  | .held _ => 1
def uptoBulkAll {H : Type} : List (DataW H) → Nat
  | [] => 0
  | d :: r => uptoBulk d + uptoBulkAll r
def uptoBulkEntries {H : Type} : List (Lit × DataW H) → Nat
  | [] => 0
  | x :: r => uptoBulkEntry x + uptoBulkEntries r
def uptoBulkEntry {H : Type} : Lit × DataW H → Nat
  | (.string bytes, d) => bytes.length + uptoBulk d + 1
  | (_, d) => uptoBulk d + 1
 end
def uptoSmall : (H : Type) → List (DataW H) → Bool := fun _ ds => decide (uptoBulkAll ds ≤ 1048576)
def OpenSpec.upto (s : _root_.Go.ChangeSpec) : _root_.Go.OpenSpec := { _root_.Go.OpenSpec.ofChange s with cond := some uptoSmall }

/-- 'dovetaillaw05.IsacheckShipped', WHERE WHAT IT READS IS OF BULK AT MOST 1048576: true; the input reads as it did. -/
def isacheckShippedUptoRow : OpenClaim := { program := "ytcogcbplmkcojaagreatdoor", sum := "93af48c49a7722924dc974e10039830ed35c2fb7d54898e53ae614bd45ae13f3", func := "dovetail/dovetaillaw05.IsacheckShipped", spec := "isacheckShipped", inPlace := ["internal/bytealg.IndexByteString", "internal/bytealg.IndexString"], unfollowed := true, recurses := true, named := ["unicode/utf8.first", "unicode/utf8.acceptRanges", "internal/bytealg.MaxLen"], apart := false, laid := [("unicode/utf8.acceptRanges", laid_unicode_utf8_acceptRanges), ("unicode/utf8.first", laid_unicode_utf8_first)], narrowed := true }
def IsacheckShippedUptoSaid : Prop := isacheckShippedUptoRow.holds Tryz.pinned (OpenSpec.upto isacheckShippedSpec)

/-- 'dovetaillaw05.IsacheckTargets', WHERE WHAT IT READS IS OF BULK AT MOST 1048576: true; the input reads as it did. -/
def isacheckTargetsUptoRow : OpenClaim := { program := "ytcogcbplmkcojaagreatdoor", sum := "93af48c49a7722924dc974e10039830ed35c2fb7d54898e53ae614bd45ae13f3", func := "dovetail/dovetaillaw05.IsacheckTargets", spec := "isacheckTargets", inPlace := ["internal/bytealg.IndexByteString", "internal/bytealg.IndexString"], unfollowed := true, recurses := true, named := ["unicode/utf8.first", "unicode/utf8.acceptRanges", "internal/bytealg.MaxLen"], apart := false, laid := [("unicode/utf8.acceptRanges", laid_unicode_utf8_acceptRanges), ("unicode/utf8.first", laid_unicode_utf8_first)], narrowed := true }
def IsacheckTargetsUptoSaid : Prop := isacheckTargetsUptoRow.holds Tryz.pinned (OpenSpec.upto isacheckTargetsSpec)

/-- 'dovetaillaw06.CodecCodes', WHERE WHAT IT READS IS OF BULK AT MOST 1048576: true; the input reads as it did. -/
def codecCodesUptoRow : OpenClaim := { program := "ytcogcbplmkcojaagreatdoor", sum := "93af48c49a7722924dc974e10039830ed35c2fb7d54898e53ae614bd45ae13f3", func := "dovetail/dovetaillaw06.CodecCodes", spec := "codecCodes", inPlace := ["internal/bytealg.IndexByteString", "internal/bytealg.IndexString"], unfollowed := true, recurses := true, named := ["unicode/utf8.first", "unicode/utf8.acceptRanges", "internal/bytealg.MaxLen"], loops := true, apart := false, laid := [("unicode/utf8.acceptRanges", laid_unicode_utf8_acceptRanges), ("unicode/utf8.first", laid_unicode_utf8_first)], narrowed := true }
def CodecCodesUptoSaid : Prop := codecCodesUptoRow.holds Tryz.pinned (OpenSpec.upto codecCodesSpec)

/-- 'dovetaillaw06.CodecTargets', WHERE WHAT IT READS IS OF BULK AT MOST 1048576: true; the input reads as it did. -/
def codecTargetsUptoRow : OpenClaim := { program := "ytcogcbplmkcojaagreatdoor", sum := "93af48c49a7722924dc974e10039830ed35c2fb7d54898e53ae614bd45ae13f3", func := "dovetail/dovetaillaw06.CodecTargets", spec := "codecTargets", inPlace := ["internal/bytealg.IndexByteString", "internal/bytealg.IndexString"], unfollowed := true, recurses := true, named := ["unicode/utf8.first", "unicode/utf8.acceptRanges", "internal/bytealg.MaxLen"], apart := false, laid := [("unicode/utf8.acceptRanges", laid_unicode_utf8_acceptRanges), ("unicode/utf8.first", laid_unicode_utf8_first)], narrowed := true }
def CodecTargetsUptoSaid : Prop := codecTargetsUptoRow.holds Tryz.pinned (OpenSpec.upto codecTargetsSpec)

/-- 'dovetaillaw06.CodecShipped', WHERE WHAT IT READS IS OF BULK AT MOST 1048576: true; the input reads as it did. -/
def codecShippedUptoRow : OpenClaim := { program := "ytcogcbplmkcojaagreatdoor", sum := "93af48c49a7722924dc974e10039830ed35c2fb7d54898e53ae614bd45ae13f3", func := "dovetail/dovetaillaw06.CodecShipped", spec := "codecShipped", inPlace := ["internal/bytealg.IndexByteString", "internal/bytealg.IndexString"], unfollowed := true, recurses := true, named := ["unicode/utf8.first", "unicode/utf8.acceptRanges", "internal/bytealg.MaxLen"], apart := false, laid := [("unicode/utf8.acceptRanges", laid_unicode_utf8_acceptRanges), ("unicode/utf8.first", laid_unicode_utf8_first)], narrowed := true }
def CodecShippedUptoSaid : Prop := codecShippedUptoRow.holds Tryz.pinned (OpenSpec.upto codecShippedSpec)

end Rows
end Go.Proofs.YtcogcbplmkcojaaGreatDoor
