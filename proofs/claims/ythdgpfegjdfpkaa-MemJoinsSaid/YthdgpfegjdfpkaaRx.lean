/-
  Contracts that leave the result open: it is one of some.
-/
import Derived.Test.YthdgpfegjdfpkaaFg
namespace Go.Proofs.Ythdgpfegjdfpkaa
open Go.RowKit
set_option linter.unusedVariables false
set_option linter.unusedSimpArgs false

/-- The function's result is one of 'S'. -/
def RunsX (P : Program) (f : FuncId) (ts : List T) (S : AV → Prop) : Prop :=
  (∀ r, S r → noRef r = true) ∧ ∀ (n : Nat) (F : Nat → Prop) (w : World) (vs : Array Value), (∀ cb, F cb → cb < w.heap.size) → vs.size = ts.length →
    (∀ (i : Nat) t v, ts[i]? = some t → vs[i]? = some v → RT w F t v) →
    Gets P f vs w fun e w' => ∃ r v G, S r ∧ e = .returned v ∧ Below w.heap.size w w' ∧ (∀ b cb, G b = some cb → n ≤ b) ∧
      RA w' ⟨F, G⟩ (List.replicate n .dead ++ (imp n r).2) (imp n r).1 v ∧ HS w' ⟨F, G⟩ (List.replicate n .dead ++ (imp n r).2) w.heap.size

theorem RunsX.of_call {P : Program} {f : FuncId} {ts : List T} {S : AV → Prop} (h : CallS P f (ts.map .t) [] (fun v H => ∃ r, S r ∧ PackD r v H)) (hn : ∀ r, S r → noRef r = true) : RunsX P f ts S := by
  refine ⟨hn, fun n F w vs hF hl hr => ?_⟩
  have hs0 : HS w ⟨F, fun _ => none⟩ [] w.heap.size := ⟨by simp, by simp, hF, Nat.le_refl _, by simp, by simp, by simp, by simp⟩
  have hM0 : ∀ cb, (Cx.mk F fun _ => none).M [] cb → F cb := by
    rintro cb (h | ⟨b, blk, hb, _⟩)
    · exact h
    · simp at hb
  refine (h w.heap.size ⟨F, fun _ => none⟩ w vs hs0 (by simpa using hl) (map_t fun i x v hi hv => (hr i x v hi hv).mono fun b _ hb => ⟨rfl, fun hm => hb (hM0 b hm)⟩)).mono ?_
  rintro e w' ⟨v, c', r', H', rfl, hra, hs, ev, hbel, r, hS, hp⟩
  obtain ⟨r0, h1, h2⟩ := hp.ok
  obtain ⟨v', G, k1, k2, k3, k4, k5⟩ := pack_out n hF hra hs ev hbel h2
  cases k1
  obtain ⟨q1, q2⟩ := out_sub h1 k4 k5
  exact ⟨r, _, G, hS, rfl, k2, k3, q1, q2⟩

theorem CallS.pureX {P : Program} {f : FuncId} {args : List AV} {ts : List T} {S : AV → Prop} {H : AH} {Q : AV → AH → Prop} (h : RunsX P f ts S) (ha : toTs args = some ts) (k : ∀ r, S r → Q (imp H.length r).1 (H ++ (imp H.length r).2)) :
    CallS P f args H Q := by
  intro B c w vs hs hl hr
  have hts := toTs_spec ha
  refine (h.2 H.length (c.M H) w vs (fun cb hcb => M_lt hs hcb) (by rw [hl, hts]; simp) (fun i t v hi hv => ?_)).mono fun e w' ⟨r, v, G, hS, he, hbel, hG, hra, hs'⟩ => ?_
  · have := hr i (.t t) v (by rw [hts]; simp [hi]) hv
    cases this with | t _ _ h => exact h
  · obtain ⟨ev, hs2⟩ := join (Hb := (imp H.length r).2) hs hbel hG hs' (imp_arr _ _) (fun b e s z g l i x j y v hb hi hj hrt => hrt.mono fun cb _ hcb => ⟨rfl, join_M (fun _ h => h) hcb⟩)
    refine ⟨v, _, _, _, he, ?_, hs2, ev, ?_, k r hS⟩
    · exact hra.shift (n := H.length) (fun cb hcb => join_M (fun _ h => h) hcb) (fun b hb => get_dead rfl hb) (fun b hb => by simp only [if_neg (Nat.not_lt.2 hb)]) (imp_ge (h.1 r hS))
    · exact hbel.mono hs.hB

end Go.Proofs.Ythdgpfegjdfpkaa
