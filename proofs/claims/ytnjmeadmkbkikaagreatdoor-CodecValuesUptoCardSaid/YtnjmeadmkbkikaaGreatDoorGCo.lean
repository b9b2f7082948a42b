/-
  The statements of layer 6 without arguments.
-/
import Derived.Test.YtnjmeadmkbkikaaGreatDoorGb
namespace Go.Proofs.YtnjmeadmkbkikaaGreatDoor
set_option maxRecDepth 100000
def codecText : List UInt8 := [40, 105, 115, 97, 32, 116, 111, 121, 32, 119, 111, 114, 100, 41, 32, 40, 102, 105, 108, 101, 32, 120, 32, 52, 32, 56, 41, 32, 40, 99, 108, 97, 115, 115, 32, 114, 32, 114, 101, 103, 32, 120, 32, 50, 41, 32, 40, 102, 111, 114, 109, 32, 105, 110, 99, 32, 34, 105, 110, 99, 32, 100, 34, 32, 40, 40, 100, 32, 114, 41, 41, 32, 40, 46, 48, 48, 48, 49, 48, 49, 32, 100, 41, 32, 40, 41, 41]
def codecD : List T := [.agg [.str [116, 111, 121], .int .i64 1, .vec 4 [.agg [.str [120], .int .i64 4, .int .i64 8, .int .i64 (-1)]], .nils, .nils, .vec 7 [.agg [.str [114], .int .i64 1, .int .i64 0, .int .i64 2, .int .i64 0, .int .i64 0, .nils]], .vec 5 [.agg [.str [105, 110, 99], .str [105, 110, 99, 32, 100], .vec 2 [.agg [.str [100], .int .i64 0]], .vec 4 [.agg [.str [48, 48, 48, 49, 48, 49], .int .i64 (-1), .int .i64 0, .int .i64 0], .agg [.str [], .int .i64 0, .int .i64 1, .int .i64 0]], .nils]], .nils, .nils, .nils, .nils, .nils, .nils], .int .i64 0, .int .i64 0]
theorem codecParse_runs : Runs Tryz.prog 32 [.str codecText] (.tup (codecD.map .t)) := Runs.of_qcallR tab_ok mixed eqs_ok ext0_ok (k := 1000) (ts := [.str codecText]) (xs := codecD) rfl (by kernel_rfl)
theorem codecAlive_runs : Runs Tryz.prog 11 [] (.t (.bool true)) :=
  Runs.of_qcall tab_ok mixed eqs_ok (extP_ok ext0_ok codecParse_runs fun _ => rfl) (k := 1000) (by kernel_rfl)
end Go.Proofs.YtnjmeadmkbkikaaGreatDoor
