/-
  Functions that the model itself knows.
-/
import Derived.Test.YthpkehhghcpolaaDoorDraw5
import Derived.Laws.Externs
namespace Go.Proofs.YthpkehhghcpolaaDoor
open Go.RowKit
set_option linter.unusedVariables false

/-- A contract of a function that the model itself knows, which neither reads nor makes memory of the walk's. -/
theorem Runs.of_extern {P : Program} {f : FuncId} {fn : Func} {e : Array Value → Sem Value} (hf : P.funcs[f]? = some fn) (hname : (fn.name == "runtime.NumGoroutine") = false) (hb : fn.body.isNone = true)
    (hx : Extern.findNext fn = none) (he : Extern.find fn = some e) {ts : List T} {r : AV}
    (h : ∀ (w : World) (vs : Array Value) (F : Nat → Prop), vs.size = ts.length → (∀ (i : Nat) t v, ts[i]? = some t → vs[i]? = some v → RT w F t v) → ∃ v, (e vs).run P w = .ok v w ∧ ∀ c H, (∀ cb, c.M H cb → F cb) → RA w c H r v)
    (hn : noRef r = true) (hi : ∀ n, imp n r = (r, [])) : Runs P f ts r := by
  refine ⟨hn, fun n F w vs hF hl hr => .inr ?_⟩
  obtain ⟨v, hrun, hra⟩ := h w vs F hl hr
  refine ⟨v, w, ?_, v, fun _ => none, rfl, Below.refl _ _, by simp, ?_, ?_⟩
  · rw [run_callFunc_extern hf hname hb hx he, hrun]
    rfl
  · rw [hi]
    refine hra _ _ ?_
    rintro cb (hm | ⟨b, blk, _, _, hg⟩)
    · exact hm
    · cases hg
  · rw [hi]
    exact ⟨by simp, by simp, hF, Nat.le_refl _, by simp, by simp, by simp, by simp⟩

end Go.Proofs.YthpkehhghcpolaaDoor
