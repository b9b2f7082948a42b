/-
  The merge of two sorted rows (walk).
-/
import Derived.Test.YthdgpfegjdfpkaaMt1
import Derived.Test.YthdgpfegjdfpkaaMt2
import Derived.Test.YthdgpfegjdfpkaaMt4
namespace Go.Proofs.Ythdgpfegjdfpkaa
open Go.IntWalk
set_option maxRecDepth 100000
set_option linter.unusedVariables false
set_option linter.unusedSimpArgs false
set_option maxHeartbeats 2000000

theorem sym_calls (N : Nat) (hl : N ≤ 1000000) : ∀ k : Nat, SymOK N k := by
  intro k
  induction k with
  | zero => intro R hN a m b hk h1 h2 h3; omega
  | succ k ih =>
    intro R hN a m b hk h1 h2 h3
    by_cases hm : m - a = 1
    · exact sym1_calls N hl R hN a m b h1 h2 h3 hm
    by_cases hb : b - m = 1
    · exact sym2_calls N hl R hN a m b h1 h2 h3 hm hb
    by_cases hd : (a + b) / 2 < m
    · exact sym3_calls N k hl ih R hN a m b hk h1 h2 h3 hm hb _ _ rfl rfl hd
    · exact sym4_calls N k hl ih R hN a m b hk h1 h2 h3 hm hb _ _ rfl rfl (by omega)

end Go.Proofs.Ythdgpfegjdfpkaa
