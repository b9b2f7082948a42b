/-
  No cell of these rows narrows 'for every input' (looked for: loops, veiled, ifaces, maps, wideKeys, modest, calm, conditions, laid).
  DERIVED. THE GIVEN ROWS OF THIS SEAT. 4 by the template 'for every input the law returns true; each argument reads behind the call as it read before'; 0 by the template 'total and deterministic' (their statements: YtddigcnpapfpjaaTotals.lean).
  GIVEN WITH THE SEED: the statements are not yours to turn. If you find one false, say at which input.
  Laid BY PROGRAM, IN A SANDBOX (cutbox-rows.mjs): the forced cells as the released guide's own fill.sh prints them over the translation 518113816af79ed1… (all of the seat's roots in one cut). By AI agents, Wed Nov 11 2026. No macro, syntax, notation, axiom, sorry.
-/
import Derived.Test.YtddigcnpapfpjaaChecked
import GoSem.Claim
import GoSem.ClaimJoined
import GoSem.ClaimMapViews
import Derived.JoinedTies
import Derived.KernelRfl
namespace Go.Proofs.Ytddigcnpapfpjaa
/- THE CELL 'sum', in the pinned program and in every row, IS THE sha256 OF THE DUMP (.gsa) THAT YtddigcnpapfpjaaProg.lean LOADS. Nothing in Lean hashes anything: it is a label: what it is worth is what the hold of that sum in a sandbox is worth. -/
noncomputable def Try.pinned : Pinned := { name := "ytddigcnpapfpjaa", sum := "518113816af79ed174de4553cfcde822b26fc1e438ce513ad672147858d4f197", checked := Try.checked }
namespace Rows
def none {H : Type} : Left H := { results := [], args := [] }

/-- 'dovetaillaw02.BufUps': WHATEVER THE INPUT: true; the input reads as it did. -/
def bufUpsSpec : ChangeSpec := { name := "bufUps", fn := fun _ => fun
  | [d1, d2] => { results := [.lit (.bool true)], args := [d1, d2] }
  | _ => none }
def bufUpsRow : OpenClaim := { program := "ytddigcnpapfpjaa", sum := "518113816af79ed174de4553cfcde822b26fc1e438ce513ad672147858d4f197", func := "dovetail/dovetaillaw02.BufUps", spec := "bufUps", apart := false }
def BufUpsSaid : Prop := bufUpsRow.holds Try.pinned (OpenSpec.ofChange bufUpsSpec)

/-- ITS FALSE NEIGHBOUR: 'it returns false'. Refute it at one input. -/
def bufUpsWrong : ChangeSpec := { name := "bufUps", fn := fun _ => fun
  | [d1, d2] => { results := [.lit (.bool false)], args := [d1, d2] }
  | _ => none }
def BufUpsWrongFalsely : Prop := bufUpsRow.holds Try.pinned (OpenSpec.ofChange bufUpsWrong)

/-- 'dovetaillaw02.BufTexts': WHATEVER THE INPUT: true; the input reads as it did. -/
def bufTextsSpec : ChangeSpec := { name := "bufTexts", fn := fun _ => fun
  | [d1, d2] => { results := [.lit (.bool true)], args := [d1, d2] }
  | _ => none }
def bufTextsRow : OpenClaim := { program := "ytddigcnpapfpjaa", sum := "518113816af79ed174de4553cfcde822b26fc1e438ce513ad672147858d4f197", func := "dovetail/dovetaillaw02.BufTexts", spec := "bufTexts", inPlace := ["internal/bytealg.IndexByte"], apart := false }
def BufTextsSaid : Prop := bufTextsRow.holds Try.pinned (OpenSpec.ofChange bufTextsSpec)

/-- ITS FALSE NEIGHBOUR: 'it returns false'. Refute it at one input. -/
def bufTextsWrong : ChangeSpec := { name := "bufTexts", fn := fun _ => fun
  | [d1, d2] => { results := [.lit (.bool false)], args := [d1, d2] }
  | _ => none }
def BufTextsWrongFalsely : Prop := bufTextsRow.holds Try.pinned (OpenSpec.ofChange bufTextsWrong)

/-- 'dovetaillaw02.BufBack': WHATEVER THE INPUT: true; the input reads as it did. -/
def bufBackSpec : ChangeSpec := { name := "bufBack", fn := fun _ => fun
  | [d1, d2, d3] => { results := [.lit (.bool true)], args := [d1, d2, d3] }
  | _ => none }
def bufBackRow : OpenClaim := { program := "ytddigcnpapfpjaa", sum := "518113816af79ed174de4553cfcde822b26fc1e438ce513ad672147858d4f197", func := "dovetail/dovetaillaw02.BufBack", spec := "bufBack", apart := false }
def BufBackSaid : Prop := bufBackRow.holds Try.pinned (OpenSpec.ofChange bufBackSpec)

/-- ITS FALSE NEIGHBOUR: 'it returns false'. Refute it at one input. -/
def bufBackWrong : ChangeSpec := { name := "bufBack", fn := fun _ => fun
  | [d1, d2, d3] => { results := [.lit (.bool false)], args := [d1, d2, d3] }
  | _ => none }
def BufBackWrongFalsely : Prop := bufBackRow.holds Try.pinned (OpenSpec.ofChange bufBackWrong)

/-- 'dovetaillaw02.BufNumbers': WHATEVER THE INPUT: true; the input reads as it did. -/
def bufNumbersSpec : ChangeSpec := { name := "bufNumbers", fn := fun _ => fun
  | [d1, d2, d3] => { results := [.lit (.bool true)], args := [d1, d2, d3] }
  | _ => none }
def bufNumbersRow : OpenClaim := { program := "ytddigcnpapfpjaa", sum := "518113816af79ed174de4553cfcde822b26fc1e438ce513ad672147858d4f197", func := "dovetail/dovetaillaw02.BufNumbers", spec := "bufNumbers", apart := false }
def BufNumbersSaid : Prop := bufNumbersRow.holds Try.pinned (OpenSpec.ofChange bufNumbersSpec)

/-- ITS FALSE NEIGHBOUR: 'it returns false'. Refute it at one input. -/
def bufNumbersWrong : ChangeSpec := { name := "bufNumbers", fn := fun _ => fun
  | [d1, d2, d3] => { results := [.lit (.bool false)], args := [d1, d2, d3] }
  | _ => none }
def BufNumbersWrongFalsely : Prop := bufNumbersRow.holds Try.pinned (OpenSpec.ofChange bufNumbersWrong)

/- THE SECOND FORM. 'bulk': how many values and letters a reading holds, each counted each time it is reached (what is shared counts as often as it is met; a slice's spare places count too). A statement '..UptoSaid' is the law's where the arguments, and the package variables that the reading takes, are together of bulk at most 1048576: NARROWER than '..Said'. Prove '..Said' where nothing that the law and all that it calls make is longer than what came in: it says more and counts as full. Else prove '..UptoSaid'. A law counts once. -/
mutual
def uptoBulk {H : Type} : DataW H → Nat
  | .lit (.string bytes) => bytes.length + 1
  | .lit _ => 1
  | .nil => 1
  | .ptr d => uptoBulk d + 1
  | .slice elems spare => uptoBulkAll elems + uptoBulkAll spare + 1
  | .agg parts => uptoBulkAll parts + 1
  | .iface _ d => uptoBulk d + 1
  | .map entries => uptoBulkEntries entries + 1
  | .held _ => 1
def uptoBulkAll {H : Type} : List (DataW H) → Nat
  | [] => 0
  | d :: r => uptoBulk d + uptoBulkAll r
def uptoBulkEntries {H : Type} : List (Lit × DataW H) → Nat
  | [] => 0
  | x :: r => uptoBulkEntry x + uptoBulkEntries r
def uptoBulkEntry {H : Type} : Lit × DataW H → Nat
  | (.string bytes, d) => bytes.length + uptoBulk d + 1
  | (_, d) => uptoBulk d + 1
 end
def uptoSmall : (H : Type) → List (DataW H) → Bool := fun _ ds => decide (uptoBulkAll ds ≤ 1048576)
def OpenSpec.upto (s : _root_.Go.ChangeSpec) : _root_.Go.OpenSpec := { _root_.Go.OpenSpec.ofChange s with cond := some uptoSmall }

/-- 'dovetaillaw02.BufUps', WHERE WHAT IT READS IS OF BULK AT MOST 1048576: true; the input reads as it did. -/
def bufUpsUptoRow : OpenClaim := { program := "ytddigcnpapfpjaa", sum := "518113816af79ed174de4553cfcde822b26fc1e438ce513ad672147858d4f197", func := "dovetail/dovetaillaw02.BufUps", spec := "bufUps", apart := false, narrowed := true }
def BufUpsUptoSaid : Prop := bufUpsUptoRow.holds Try.pinned (OpenSpec.upto bufUpsSpec)

/-- 'dovetaillaw02.BufTexts', WHERE WHAT IT READS IS OF BULK AT MOST 1048576: true; the input reads as it did. -/
def bufTextsUptoRow : OpenClaim := { program := "ytddigcnpapfpjaa", sum := "518113816af79ed174de4553cfcde822b26fc1e438ce513ad672147858d4f197", func := "dovetail/dovetaillaw02.BufTexts", spec := "bufTexts", inPlace := ["internal/bytealg.IndexByte"], apart := false, narrowed := true }
def BufTextsUptoSaid : Prop := bufTextsUptoRow.holds Try.pinned (OpenSpec.upto bufTextsSpec)

/-- 'dovetaillaw02.BufBack', WHERE WHAT IT READS IS OF BULK AT MOST 1048576: true; the input reads as it did. -/
def bufBackUptoRow : OpenClaim := { program := "ytddigcnpapfpjaa", sum := "518113816af79ed174de4553cfcde822b26fc1e438ce513ad672147858d4f197", func := "dovetail/dovetaillaw02.BufBack", spec := "bufBack", apart := false, narrowed := true }
def BufBackUptoSaid : Prop := bufBackUptoRow.holds Try.pinned (OpenSpec.upto bufBackSpec)

/-- 'dovetaillaw02.BufNumbers', WHERE WHAT IT READS IS OF BULK AT MOST 1048576: true; the input reads as it did. -/
def bufNumbersUptoRow : OpenClaim := { program := "ytddigcnpapfpjaa", sum := "518113816af79ed174de4553cfcde822b26fc1e438ce513ad672147858d4f197", func := "dovetail/dovetaillaw02.BufNumbers", spec := "bufNumbers", apart := false, narrowed := true }
def BufNumbersUptoSaid : Prop := bufNumbersUptoRow.holds Try.pinned (OpenSpec.upto bufNumbersSpec)

end Rows
end Go.Proofs.Ytddigcnpapfpjaa
