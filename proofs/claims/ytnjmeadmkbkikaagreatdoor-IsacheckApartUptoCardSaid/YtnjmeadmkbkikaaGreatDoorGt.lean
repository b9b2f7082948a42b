/-
  The small description of layer 5's statements, as data.
-/
import Derived.Test.YtnjmeadmkbkikaaGreatDoorGb
namespace Go.Proofs.YtnjmeadmkbkikaaGreatDoor
set_option maxRecDepth 100000
def toyT : T := .agg [.str [116, 111, 121], .int .i64 1, .vec 4 [.agg [.str [120], .int .i64 4, .int .i64 8, .int .i64 (-1)]], .nils, .nils, .vec 7 [.agg [.str [114], .int .i64 1, .int .i64 0, .int .i64 2, .int .i64 0, .int .i64 0, .nils]], .vec 5 [.agg [.str [105, 110, 99], .str [105, 110, 99, 32, 100], .vec 2 [.agg [.str [100], .int .i64 0]], .vec 4 [.agg [.str [48, 48, 48, 48, 48, 48], .int .i64 (-1), .int .i64 0, .int .i64 0], .agg [.str [], .int .i64 0, .int .i64 1, .int .i64 0]], .vec 5 [.agg [.int .i64 31, .int .i64 0, .int .i64 0, .int .i64 0, .vec 5 [.agg [.int .i64 1, .int .i64 0, .int .i64 0, .int .i64 0, .vec 5 [.agg [.int .i64 21, .int .i64 0, .int .i64 0, .int .i64 0, .nils], .agg [.int .i64 20, .int .i64 8, .int .i64 1, .int .i64 0, .nils]]]]]]], .agg [.str [100, 101, 99], .str [100, 101, 99, 32, 100], .vec 2 [.agg [.str [100], .int .i64 0]], .vec 4 [.agg [.str [48, 48, 48, 48, 48, 49], .int .i64 (-1), .int .i64 0, .int .i64 0], .agg [.str [], .int .i64 0, .int .i64 1, .int .i64 0]], .nils]], .nils, .nils, .nils, .nils, .nils, .nils]
theorem toy_runs : Runs Tryz.prog 20 [] (.t toyT) := Runs.of_qcallT tab_ok mixed eqs_ok ext0_ok (k := 1000) (ts := []) (by kernel_rfl)
end Go.Proofs.YtnjmeadmkbkikaaGreatDoor
