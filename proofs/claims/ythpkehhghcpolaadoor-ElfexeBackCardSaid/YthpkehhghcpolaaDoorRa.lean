/-
  An executable's file, read: a number at a place (walks).
-/
import Derived.Test.YthpkehhghcpolaaDoorRp
import Derived.Test.YthpkehhghcpolaaDoorEy3
import Derived.Test.YthpkehhghcpolaaDoorFg
import Derived.Test.YthpkehhghcpolaaDoorFd
namespace Go.Proofs.YthpkehhghcpolaaDoor
open Go.IntWalk
set_option maxRecDepth 100000
set_option linter.unusedVariables false
set_option linter.unusedSimpArgs false
set_option maxHeartbeats 2000000

/-- What a call leaves behind may be told with fewer blocks. -/
theorem CallS.gc {P : Program} {f : FuncId} {args : List AV} {H : AH} {Q Q' : AV → AH → Prop} (h : CallS P f args H Q) (k : ∀ r H', Q r H' → ∃ r' H'', Weak H.length ⟨[(0, r)], H'⟩ ⟨[(0, r')], H''⟩ ∧ Q' r' H'') : CallS P f args H Q' := by
  intro B c w vs hs hl hr
  refine (h B c w vs hs hl hr).mono ?_
  rintro e w' ⟨v, c', r, H', he, hra, hs', hev, hbel, hq⟩
  obtain ⟨r', H'', hw, hq'⟩ := k r H' hq
  have hsat : Sat ⟨1, B, w, c, H, []⟩ c' ⟨[(0, r)], H'⟩ { tmps := #[v], defers := [] } w' := by
    refine ⟨fun t => ?_, hs', rfl, rfl, hev, hbel⟩
    rw [lk_cons]
    by_cases ht : 0 = t
    · subst ht; rw [if_pos rfl]; exact hra
    · rw [if_neg ht]; exact .junk _
  obtain ⟨c'', hs''⟩ := hw ⟨1, B, w, c, H, []⟩ c' { tmps := #[v], defers := [] } w' rfl hsat
  have h0 := hs''.env 0
  rw [lk_cons, if_pos rfl] at h0
  exact ⟨v, c'', r', H'', he, h0, hs''.hs, hs''.ev, hs''.below, hq'⟩

theorem must_runs : Runs Tryd.prog 33 [.bool true] (.tup []) := by
  refine Runs.of_call ?_ rfl
  refine CallS.of_fn tabS_ok regS_ok Tryd.func33 rfl rfl ?_
  exact And.intro trivial rfl

theorem must_ok {b : Bool} (h : b = true) : Runs Tryd.prog 33 [.bool b] (.tup []) := by subst h; exact must_runs

theorem enum_calls (M : List T) {a n N g : Nat} (hl : N ≤ 67108864) (hM : M.length = N) (ha : a ≤ N) (hg : Runs Tryd.prog 55 [.vec 1 M, .int .i64 a, .int .i64 n] (.tup [.t (.int .u64 g), .t (.int .i64 0)])) (K : AV → AH → Prop) (hK : K (.t (.int .u64 g)) []) :
    CallS Tryd.prog 32 [.t (.vec 1 M), .t (.int .u64 a), .t (.int .i64 n)] [] K := by
  refine CallS.of_fn tabS_ok regS_ok Tryd.func32 rfl rfl ?_
  refine st_intro (n := ((N : Nat) : Int)) (show IntKind.u64.wrap ((M.length : Nat) : Int) = _ from by rw [hM, IntKind.wrap_u64]; omega) ?_
  refine CallS.pure (must_ok (decide_eq_true (by omega))) rfl ?_
  refine st_intro (n := ((a : Nat) : Int)) (show IntKind.i64.wrap (a : Int) = _ from by rw [IntKind.wrap_i64]; omega) ?_
  refine CallS.pure hg rfl ?_
  refine CallS.pure must_runs rfl ?_
  exact hK

theorem enum_runs (bs : List UInt8) (hb : bs.length ≤ 67108864) {a n : Nat} (h : a + n ≤ bs.length) (hn : 1 ≤ n ∧ n ≤ 8) : Runs Tryd.prog 32 [.vec 1 (U bs), .int .u64 a, .int .i64 n] (.t (.int .u64 (gN bs a n))) := by
  have hg := get_runs bs (by omega) (a : Int) (n : Int)
  have e : getR bs (a : Int) (n : Int) = .tup [.t (.int .u64 ((gN bs a n : Nat) : Int)), .t (.int .i64 0)] := by
    unfold getR gN
    rw [if_pos (show There bs.length (a : Int) (n : Int) from ⟨by omega, by omega, by omega⟩), if_pos h]
  rw [e] at hg
  exact Runs.of_call (enum_calls (U bs) (N := bs.length) hb (U_len bs) (by omega) hg _ (And.intro rfl rfl)) rfl

end Go.Proofs.YthpkehhghcpolaaDoor
