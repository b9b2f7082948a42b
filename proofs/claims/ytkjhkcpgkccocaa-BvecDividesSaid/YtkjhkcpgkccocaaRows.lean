/-
  No cell of these rows narrows 'for every input' (looked for: loops, veiled, ifaces, maps, wideKeys, modest, calm, conditions, laid).
  DERIVED. THE GIVEN ROWS OF THIS SEAT. 10 by the template 'for every input the law returns true; each argument reads behind the call as it read before'; 0 by the template 'total and deterministic' (their statements: YtkjhkcpgkccocaaTotals.lean).
  GIVEN WITH THE SEED: the statements are not yours to turn. If you find one false, say at which input.
  Laid BY PROGRAM, IN A SANDBOX (cutbox-rows.mjs): the forced cells as the released guide's own fill.sh prints them over the translation 87a2c98ed838f86f… (all of the seat's roots in one cut). By AI agents, Wed Nov 11 2026. No macro, syntax, notation, axiom, sorry.
-/
import Derived.Test.YtkjhkcpgkccocaaChecked
import GoSem.Claim
import GoSem.ClaimJoined
import GoSem.ClaimMapViews
import Derived.JoinedTies
import Derived.KernelRfl
namespace Go.Proofs.Ytkjhkcpgkccocaa
/- THE CELL 'sum', in the pinned program and in every row, IS THE sha256 OF THE DUMP (.gsa) THAT YtkjhkcpgkccocaaProg.lean LOADS. Nothing in Lean hashes anything: it is a label: what it is worth is what the hold of that sum in a sandbox is worth. -/
noncomputable def Try.pinned : Pinned := { name := "ytkjhkcpgkccocaa", sum := "87a2c98ed838f86fdddcac2141e6c5d56328855d5f9a81b394a40323a9f985db", checked := Try.checked }
namespace Rows
def none {H : Type} : Left H := { results := [], args := [] }

/-- 'dovetaillaw01.BvecNames': WHATEVER THE INPUT: true; the input reads as it did. -/
def bvecNamesSpec : ChangeSpec := { name := "bvecNames", fn := fun _ => fun
  | [] => { results := [.lit (.bool true)], args := [] }
  | _ => none }
def bvecNamesRow : OpenClaim := { program := "ytkjhkcpgkccocaa", sum := "87a2c98ed838f86fdddcac2141e6c5d56328855d5f9a81b394a40323a9f985db", func := "dovetail/dovetaillaw01.BvecNames", spec := "bvecNames", inPlace := ["math/bits.Add64"], recurses := true, apart := false }
def BvecNamesSaid : Prop := bvecNamesRow.holds Try.pinned (OpenSpec.ofChange bvecNamesSpec)

/-- ITS FALSE NEIGHBOUR: 'it returns false'. Refute it at one input. -/
def bvecNamesWrong : ChangeSpec := { name := "bvecNames", fn := fun _ => fun
  | [] => { results := [.lit (.bool false)], args := [] }
  | _ => none }
def BvecNamesWrongFalsely : Prop := bvecNamesRow.holds Try.pinned (OpenSpec.ofChange bvecNamesWrong)

/-- 'dovetaillaw01.BvecBins': WHATEVER THE INPUT: true; the input reads as it did. -/
def bvecBinsSpec : ChangeSpec := { name := "bvecBins", fn := fun _ => fun
  | [d1, d2, d3] => { results := [.lit (.bool true)], args := [d1, d2, d3] }
  | _ => none }
def bvecBinsRow : OpenClaim := { program := "ytkjhkcpgkccocaa", sum := "87a2c98ed838f86fdddcac2141e6c5d56328855d5f9a81b394a40323a9f985db", func := "dovetail/dovetaillaw01.BvecBins", spec := "bvecBins", inPlace := ["math/bits.Add64"], recurses := true, apart := false }
def BvecBinsSaid : Prop := bvecBinsRow.holds Try.pinned (OpenSpec.ofChange bvecBinsSpec)

/-- ITS FALSE NEIGHBOUR: 'it returns false'. Refute it at one input. -/
def bvecBinsWrong : ChangeSpec := { name := "bvecBins", fn := fun _ => fun
  | [d1, d2, d3] => { results := [.lit (.bool false)], args := [d1, d2, d3] }
  | _ => none }
def BvecBinsWrongFalsely : Prop := bvecBinsRow.holds Try.pinned (OpenSpec.ofChange bvecBinsWrong)

/-- 'dovetaillaw01.BvecDivides': WHATEVER THE INPUT: true; the input reads as it did. -/
def bvecDividesSpec : ChangeSpec := { name := "bvecDivides", fn := fun _ => fun
  | [d1, d2] => { results := [.lit (.bool true)], args := [d1, d2] }
  | _ => none }
def bvecDividesRow : OpenClaim := { program := "ytkjhkcpgkccocaa", sum := "87a2c98ed838f86fdddcac2141e6c5d56328855d5f9a81b394a40323a9f985db", func := "dovetail/dovetaillaw01.BvecDivides", spec := "bvecDivides", inPlace := ["math/bits.Add64"], recurses := true, apart := false }
def BvecDividesSaid : Prop := bvecDividesRow.holds Try.pinned (OpenSpec.ofChange bvecDividesSpec)

/-- ITS FALSE NEIGHBOUR: 'it returns false'. Refute it at one input. -/
def bvecDividesWrong : ChangeSpec := { name := "bvecDivides", fn := fun _ => fun
  | [d1, d2] => { results := [.lit (.bool false)], args := [d1, d2] }
  | _ => none }
def BvecDividesWrongFalsely : Prop := bvecDividesRow.holds Try.pinned (OpenSpec.ofChange bvecDividesWrong)

/-- 'dovetaillaw01.BvecParts': WHATEVER THE INPUT: true; the input reads as it did. -/
def bvecPartsSpec : ChangeSpec := { name := "bvecParts", fn := fun _ => fun
  | [d1, d2, d3] => { results := [.lit (.bool true)], args := [d1, d2, d3] }
  | _ => none }
def bvecPartsRow : OpenClaim := { program := "ytkjhkcpgkccocaa", sum := "87a2c98ed838f86fdddcac2141e6c5d56328855d5f9a81b394a40323a9f985db", func := "dovetail/dovetaillaw01.BvecParts", spec := "bvecParts", inPlace := ["math/bits.Add64"], recurses := true, apart := false }
def BvecPartsSaid : Prop := bvecPartsRow.holds Try.pinned (OpenSpec.ofChange bvecPartsSpec)

/-- ITS FALSE NEIGHBOUR: 'it returns false'. Refute it at one input. -/
def bvecPartsWrong : ChangeSpec := { name := "bvecParts", fn := fun _ => fun
  | [d1, d2, d3] => { results := [.lit (.bool false)], args := [d1, d2, d3] }
  | _ => none }
def BvecPartsWrongFalsely : Prop := bvecPartsRow.holds Try.pinned (OpenSpec.ofChange bvecPartsWrong)

/-- 'dovetaillaw01.BvecBack': WHATEVER THE INPUT: true; the input reads as it did. -/
def bvecBackSpec : ChangeSpec := { name := "bvecBack", fn := fun _ => fun
  | [d1, d2, d3] => { results := [.lit (.bool true)], args := [d1, d2, d3] }
  | _ => none }
def bvecBackRow : OpenClaim := { program := "ytkjhkcpgkccocaa", sum := "87a2c98ed838f86fdddcac2141e6c5d56328855d5f9a81b394a40323a9f985db", func := "dovetail/dovetaillaw01.BvecBack", spec := "bvecBack", inPlace := ["math/bits.Add64"], recurses := true, apart := false }
def BvecBackSaid : Prop := bvecBackRow.holds Try.pinned (OpenSpec.ofChange bvecBackSpec)

/-- ITS FALSE NEIGHBOUR: 'it returns false'. Refute it at one input. -/
def bvecBackWrong : ChangeSpec := { name := "bvecBack", fn := fun _ => fun
  | [d1, d2, d3] => { results := [.lit (.bool false)], args := [d1, d2, d3] }
  | _ => none }
def BvecBackWrongFalsely : Prop := bvecBackRow.holds Try.pinned (OpenSpec.ofChange bvecBackWrong)

/-- 'dovetaillaw01.BvecUns': WHATEVER THE INPUT: true; the input reads as it did. -/
def bvecUnsSpec : ChangeSpec := { name := "bvecUns", fn := fun _ => fun
  | [d1, d2] => { results := [.lit (.bool true)], args := [d1, d2] }
  | _ => none }
def bvecUnsRow : OpenClaim := { program := "ytkjhkcpgkccocaa", sum := "87a2c98ed838f86fdddcac2141e6c5d56328855d5f9a81b394a40323a9f985db", func := "dovetail/dovetaillaw01.BvecUns", spec := "bvecUns", inPlace := ["math/bits.Add64"], recurses := true, apart := false }
def BvecUnsSaid : Prop := bvecUnsRow.holds Try.pinned (OpenSpec.ofChange bvecUnsSpec)

/-- ITS FALSE NEIGHBOUR: 'it returns false'. Refute it at one input. -/
def bvecUnsWrong : ChangeSpec := { name := "bvecUns", fn := fun _ => fun
  | [d1, d2] => { results := [.lit (.bool false)], args := [d1, d2] }
  | _ => none }
def BvecUnsWrongFalsely : Prop := bvecUnsRow.holds Try.pinned (OpenSpec.ofChange bvecUnsWrong)

/-- 'dovetaillaw01.BvecRing': WHATEVER THE INPUT: true; the input reads as it did. -/
def bvecRingSpec : ChangeSpec := { name := "bvecRing", fn := fun _ => fun
  | [d1, d2, d3] => { results := [.lit (.bool true)], args := [d1, d2, d3] }
  | _ => none }
def bvecRingRow : OpenClaim := { program := "ytkjhkcpgkccocaa", sum := "87a2c98ed838f86fdddcac2141e6c5d56328855d5f9a81b394a40323a9f985db", func := "dovetail/dovetaillaw01.BvecRing", spec := "bvecRing", inPlace := ["math/bits.Add64"], recurses := true, apart := false }
def BvecRingSaid : Prop := bvecRingRow.holds Try.pinned (OpenSpec.ofChange bvecRingSpec)

/-- ITS FALSE NEIGHBOUR: 'it returns false'. Refute it at one input. -/
def bvecRingWrong : ChangeSpec := { name := "bvecRing", fn := fun _ => fun
  | [d1, d2, d3] => { results := [.lit (.bool false)], args := [d1, d2, d3] }
  | _ => none }
def BvecRingWrongFalsely : Prop := bvecRingRow.holds Try.pinned (OpenSpec.ofChange bvecRingWrong)

/-- 'dovetaillaw01.BvecFits': WHATEVER THE INPUT: true; the input reads as it did. -/
def bvecFitsSpec : ChangeSpec := { name := "bvecFits", fn := fun _ => fun
  | [d1, d2] => { results := [.lit (.bool true)], args := [d1, d2] }
  | _ => none }
def bvecFitsRow : OpenClaim := { program := "ytkjhkcpgkccocaa", sum := "87a2c98ed838f86fdddcac2141e6c5d56328855d5f9a81b394a40323a9f985db", func := "dovetail/dovetaillaw01.BvecFits", spec := "bvecFits", inPlace := ["math/bits.Add64"], recurses := true, apart := false }
def BvecFitsSaid : Prop := bvecFitsRow.holds Try.pinned (OpenSpec.ofChange bvecFitsSpec)

/-- ITS FALSE NEIGHBOUR: 'it returns false'. Refute it at one input. -/
def bvecFitsWrong : ChangeSpec := { name := "bvecFits", fn := fun _ => fun
  | [d1, d2] => { results := [.lit (.bool false)], args := [d1, d2] }
  | _ => none }
def BvecFitsWrongFalsely : Prop := bvecFitsRow.holds Try.pinned (OpenSpec.ofChange bvecFitsWrong)

/-- 'dovetaillaw01.BvecWidths': WHATEVER THE INPUT: true; the input reads as it did. -/
def bvecWidthsSpec : ChangeSpec := { name := "bvecWidths", fn := fun _ => fun
  | [d1, d2, d3] => { results := [.lit (.bool true)], args := [d1, d2, d3] }
  | _ => none }
def bvecWidthsRow : OpenClaim := { program := "ytkjhkcpgkccocaa", sum := "87a2c98ed838f86fdddcac2141e6c5d56328855d5f9a81b394a40323a9f985db", func := "dovetail/dovetaillaw01.BvecWidths", spec := "bvecWidths", inPlace := ["math/bits.Add64"], recurses := true, apart := false }
def BvecWidthsSaid : Prop := bvecWidthsRow.holds Try.pinned (OpenSpec.ofChange bvecWidthsSpec)

/-- ITS FALSE NEIGHBOUR: 'it returns false'. Refute it at one input. -/
def bvecWidthsWrong : ChangeSpec := { name := "bvecWidths", fn := fun _ => fun
  | [d1, d2, d3] => { results := [.lit (.bool false)], args := [d1, d2, d3] }
  | _ => none }
def BvecWidthsWrongFalsely : Prop := bvecWidthsRow.holds Try.pinned (OpenSpec.ofChange bvecWidthsWrong)

/-- 'dovetaillaw01.BvecExtends': WHATEVER THE INPUT: true; the input reads as it did. -/
def bvecExtendsSpec : ChangeSpec := { name := "bvecExtends", fn := fun _ => fun
  | [d1, d2, d3] => { results := [.lit (.bool true)], args := [d1, d2, d3] }
  | _ => none }
def bvecExtendsRow : OpenClaim := { program := "ytkjhkcpgkccocaa", sum := "87a2c98ed838f86fdddcac2141e6c5d56328855d5f9a81b394a40323a9f985db", func := "dovetail/dovetaillaw01.BvecExtends", spec := "bvecExtends", inPlace := ["math/bits.Add64"], recurses := true, apart := false }
def BvecExtendsSaid : Prop := bvecExtendsRow.holds Try.pinned (OpenSpec.ofChange bvecExtendsSpec)

/-- ITS FALSE NEIGHBOUR: 'it returns false'. Refute it at one input. -/
def bvecExtendsWrong : ChangeSpec := { name := "bvecExtends", fn := fun _ => fun
  | [d1, d2, d3] => { results := [.lit (.bool false)], args := [d1, d2, d3] }
  | _ => none }
def BvecExtendsWrongFalsely : Prop := bvecExtendsRow.holds Try.pinned (OpenSpec.ofChange bvecExtendsWrong)

/- THE SECOND FORM. 'bulk': how many values and letters a reading holds, each counted each time it is reached (what is shared counts as often as it is met; a slice's spare places count too). A statement '..UptoSaid' is the law's where the arguments, and the package variables that the reading takes, are together of bulk at most 1048576: NARROWER than '..Said'. Prove '..Said' where nothing that the law and all that it calls make is longer than what came in: it says more and counts as full. Else prove '..UptoSaid'. A law counts once. -/
mutual
def uptoBulk {H : Type} : DataW H → Nat
  | .lit (.string bytes) => bytes.length + 1
  | .lit _ => 1
  | .nil => 1
  | .ptr d => uptoBulk d + 1
  | .slice elems spare => uptoBulkAll elems + uptoBulkAll spare + 1
  | .agg parts => uptoBulkAll parts + 1
  | .iface _ d => uptoBulk d + 1
  | .map entries => uptoBulkEntries entries + 1
  | .held _ => 1
def uptoBulkAll {H : Type} : List (DataW H) → Nat
  | [] => 0
  | d :: r => uptoBulk d + uptoBulkAll r
def uptoBulkEntries {H : Type} : List (Lit × DataW H) → Nat
  | [] => 0
  | x :: r => uptoBulkEntry x + uptoBulkEntries r
def uptoBulkEntry {H : Type} : Lit × DataW H → Nat
  | (.string bytes, d) => bytes.length + uptoBulk d + 1
  | (_, d) => uptoBulk d + 1
 end
def uptoSmall : (H : Type) → List (DataW H) → Bool := fun _ ds => decide (uptoBulkAll ds ≤ 1048576)
def OpenSpec.upto (s : _root_.Go.ChangeSpec) : _root_.Go.OpenSpec := { _root_.Go.OpenSpec.ofChange s with cond := some uptoSmall }

/-- 'dovetaillaw01.BvecNames', WHERE WHAT IT READS IS OF BULK AT MOST 1048576: true; the input reads as it did. -/
def bvecNamesUptoRow : OpenClaim := { program := "ytkjhkcpgkccocaa", sum := "87a2c98ed838f86fdddcac2141e6c5d56328855d5f9a81b394a40323a9f985db", func := "dovetail/dovetaillaw01.BvecNames", spec := "bvecNames", inPlace := ["math/bits.Add64"], recurses := true, apart := false, narrowed := true }
def BvecNamesUptoSaid : Prop := bvecNamesUptoRow.holds Try.pinned (OpenSpec.upto bvecNamesSpec)

/-- 'dovetaillaw01.BvecBins', WHERE WHAT IT READS IS OF BULK AT MOST 1048576: true; the input reads as it did. -/
def bvecBinsUptoRow : OpenClaim := { program := "ytkjhkcpgkccocaa", sum := "87a2c98ed838f86fdddcac2141e6c5d56328855d5f9a81b394a40323a9f985db", func := "dovetail/dovetaillaw01.BvecBins", spec := "bvecBins", inPlace := ["math/bits.Add64"], recurses := true, apart := false, narrowed := true }
def BvecBinsUptoSaid : Prop := bvecBinsUptoRow.holds Try.pinned (OpenSpec.upto bvecBinsSpec)

/-- 'dovetaillaw01.BvecDivides', WHERE WHAT IT READS IS OF BULK AT MOST 1048576: true; the input reads as it did. -/
def bvecDividesUptoRow : OpenClaim := { program := "ytkjhkcpgkccocaa", sum := "87a2c98ed838f86fdddcac2141e6c5d56328855d5f9a81b394a40323a9f985db", func := "dovetail/dovetaillaw01.BvecDivides", spec := "bvecDivides", inPlace := ["math/bits.Add64"], recurses := true, apart := false, narrowed := true }
def BvecDividesUptoSaid : Prop := bvecDividesUptoRow.holds Try.pinned (OpenSpec.upto bvecDividesSpec)

/-- 'dovetaillaw01.BvecParts', WHERE WHAT IT READS IS OF BULK AT MOST 1048576: true; the input reads as it did. -/
def bvecPartsUptoRow : OpenClaim := { program := "ytkjhkcpgkccocaa", sum := "87a2c98ed838f86fdddcac2141e6c5d56328855d5f9a81b394a40323a9f985db", func := "dovetail/dovetaillaw01.BvecParts", spec := "bvecParts", inPlace := ["math/bits.Add64"], recurses := true, apart := false, narrowed := true }
def BvecPartsUptoSaid : Prop := bvecPartsUptoRow.holds Try.pinned (OpenSpec.upto bvecPartsSpec)

/-- 'dovetaillaw01.BvecBack', WHERE WHAT IT READS IS OF BULK AT MOST 1048576: true; the input reads as it did. -/
def bvecBackUptoRow : OpenClaim := { program := "ytkjhkcpgkccocaa", sum := "87a2c98ed838f86fdddcac2141e6c5d56328855d5f9a81b394a40323a9f985db", func := "dovetail/dovetaillaw01.BvecBack", spec := "bvecBack", inPlace := ["math/bits.Add64"], recurses := true, apart := false, narrowed := true }
def BvecBackUptoSaid : Prop := bvecBackUptoRow.holds Try.pinned (OpenSpec.upto bvecBackSpec)

/-- 'dovetaillaw01.BvecUns', WHERE WHAT IT READS IS OF BULK AT MOST 1048576: true; the input reads as it did. -/
def bvecUnsUptoRow : OpenClaim := { program := "ytkjhkcpgkccocaa", sum := "87a2c98ed838f86fdddcac2141e6c5d56328855d5f9a81b394a40323a9f985db", func := "dovetail/dovetaillaw01.BvecUns", spec := "bvecUns", inPlace := ["math/bits.Add64"], recurses := true, apart := false, narrowed := true }
def BvecUnsUptoSaid : Prop := bvecUnsUptoRow.holds Try.pinned (OpenSpec.upto bvecUnsSpec)

/-- 'dovetaillaw01.BvecRing', WHERE WHAT IT READS IS OF BULK AT MOST 1048576: true; the input reads as it did. -/
def bvecRingUptoRow : OpenClaim := { program := "ytkjhkcpgkccocaa", sum := "87a2c98ed838f86fdddcac2141e6c5d56328855d5f9a81b394a40323a9f985db", func := "dovetail/dovetaillaw01.BvecRing", spec := "bvecRing", inPlace := ["math/bits.Add64"], recurses := true, apart := false, narrowed := true }
def BvecRingUptoSaid : Prop := bvecRingUptoRow.holds Try.pinned (OpenSpec.upto bvecRingSpec)

/-- 'dovetaillaw01.BvecFits', WHERE WHAT IT READS IS OF BULK AT MOST 1048576: true; the input reads as it did. -/
def bvecFitsUptoRow : OpenClaim := { program := "ytkjhkcpgkccocaa", sum := "87a2c98ed838f86fdddcac2141e6c5d56328855d5f9a81b394a40323a9f985db", func := "dovetail/dovetaillaw01.BvecFits", spec := "bvecFits", inPlace := ["math/bits.Add64"], recurses := true, apart := false, narrowed := true }
def BvecFitsUptoSaid : Prop := bvecFitsUptoRow.holds Try.pinned (OpenSpec.upto bvecFitsSpec)

/-- 'dovetaillaw01.BvecWidths', WHERE WHAT IT READS IS OF BULK AT MOST 1048576: true; the input reads as it did. -/
def bvecWidthsUptoRow : OpenClaim := { program := "ytkjhkcpgkccocaa", sum := "87a2c98ed838f86fdddcac2141e6c5d56328855d5f9a81b394a40323a9f985db", func := "dovetail/dovetaillaw01.BvecWidths", spec := "bvecWidths", inPlace := ["math/bits.Add64"], recurses := true, apart := false, narrowed := true }
def BvecWidthsUptoSaid : Prop := bvecWidthsUptoRow.holds Try.pinned (OpenSpec.upto bvecWidthsSpec)

/-- 'dovetaillaw01.BvecExtends', WHERE WHAT IT READS IS OF BULK AT MOST 1048576: true; the input reads as it did. -/
def bvecExtendsUptoRow : OpenClaim := { program := "ytkjhkcpgkccocaa", sum := "87a2c98ed838f86fdddcac2141e6c5d56328855d5f9a81b394a40323a9f985db", func := "dovetail/dovetaillaw01.BvecExtends", spec := "bvecExtends", inPlace := ["math/bits.Add64"], recurses := true, apart := false, narrowed := true }
def BvecExtendsUptoSaid : Prop := bvecExtendsUptoRow.holds Try.pinned (OpenSpec.upto bvecExtendsSpec)

end Rows
end Go.Proofs.Ytkjhkcpgkccocaa
