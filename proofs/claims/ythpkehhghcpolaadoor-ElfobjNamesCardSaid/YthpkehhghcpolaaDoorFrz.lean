/-
  A call that is handed rows of the walk's own for good: what comes back may lead to them.
-/
import Derived.Test.YthpkehhghcpolaaDoorGc
namespace Go.Proofs.YthpkehhghcpolaaDoor
open Go.RowKit
set_option linter.unusedVariables false

theorem hide_kill {w : World} {c : Cx} {B : Nat} : ∀ (D : List Nat) {H : AH}, HS w c H B → Ev w c H w c (hide D H) ∧ HS w c (hide D H) B
  | [], H, hs => ⟨Ev.refl _ _ _, hs⟩
  | b :: r, H, hs => by
    obtain ⟨e1, h1⟩ := kill hs b
    obtain ⟨e2, h2⟩ := hide_kill r h1
    exact ⟨e1.trans e2, h2⟩

theorem hide_len : ∀ (D : List Nat) (H : AH), (hide D H).length = H.length
  | [], H => rfl
  | b :: r, H => by simp only [hide]; rw [hide_len r]; simp

/-- The rows that a call is handed are given up. -/
theorem CallS.frz {P : Program} {f : FuncId} {args : List AV} {ts : List T} {ids : List Nat} {r : AV} {H : AH} {Q : AV → AH → Prop} (h : Runs P f ts r) (ha : snapL 32 H args = some (ts, ids))
    (k : Q (imp H.length r).1 (hide ids H ++ (imp H.length r).2)) : CallS P f args H Q := by
  intro B c w vs hs hl hr
  obtain ⟨ev, hs'⟩ := hide_kill ids hs
  obtain ⟨hlen, hrt⟩ := snapL_ok hs (M' := c.M (hide ids H)) (fun cb hm => by
      rcases hm with hm | ⟨b, blk, hb, hlv, hg⟩
      · exact .inl hm
      · rcases hide_back ids hb with rfl | ⟨_, hb⟩
        · simp [Blk.live] at hlv
        · exact .inr ⟨b, blk, hb, hlv, hg⟩) 32 ha (vs := vs.toList) (by simpa using hl.symm) (fun i x v hi hv => hr i x v hi (by simpa using hv))
    (fun b hb cb hg hm => by
      rcases hm with hm | ⟨b2, blk, hb2, hlv, hg2⟩
      · have := hs.fb cb hm; have := (hs.base b cb hg).1; omega
      · have := hs.inj b b2 cb hg hg2
        subst this
        rcases hide_back ids hb2 with rfl | ⟨hn, _⟩
        · simp [Blk.live] at hlv
        · exact hn hb)
  have hts : toTs (ts.map .t) = some ts := by
    clear hrt hlen ha h
    induction ts with
    | nil => rfl
    | cons x r ih => simp only [List.map_cons, toTs, toT1, ih]
  have key := CallS.pure (H := hide ids H) (Q := Q) h hts (by rw [hide_len]; exact k) B c w vs hs' (by rw [List.length_map]; omega) (map_t fun i x v hi hv => hrt i x v hi (by simpa using hv))
  refine key.mono ?_
  rintro e w' ⟨v, c', r', H', he, h1, h2, h3, h4, h5⟩
  exact ⟨v, c', r', H', he, h1, h2, ev.trans h3, h4, h5⟩

end Go.Proofs.YthpkehhghcpolaaDoor
