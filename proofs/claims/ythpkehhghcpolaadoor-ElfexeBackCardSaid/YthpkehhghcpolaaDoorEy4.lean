/-
  Executables that come in; what is written of them is well-formed.
-/
import Derived.Test.YthpkehhghcpolaaDoorEy3
namespace Go.Proofs.YthpkehhghcpolaaDoor
open Go.IntWalk
set_option maxRecDepth 100000
set_option linter.unusedVariables false
set_option linter.unusedSimpArgs false

theorem quad_arg {t : TypeId} {f0 f1 f2 f3 : Field} {c : List T} (ht : Tryd.prog.underlying t = some (.struct #[f0, f1, f2, f3])) (hc : Tryd.prog.cellsOf t = 4)
    (h0 : f0.type = 3 ∧ f0.offset = 0) (h1 : f1.type = 3 ∧ f1.offset = 1) (h2 : f2.type = 3 ∧ f2.offset = 2) (h3 : f3.type = 27 ∧ f3.offset = 3)
    (h : HasT Tryd.prog t c) : ∃ s : SegD, s.d.length ≤ 140737488351232 ∧ SubT (mkElem 4 c) (segT s) := by
  obtain ⟨hl, hf⟩ := h.struct' ht
  rw [hc] at hl
  match c, hl with
  | [a, b, d, e], _ =>
    have k0 := hf f0 (by simp)
    have k1 := hf f1 (by simp)
    have k2 := hf f2 (by simp)
    have k3 := hf f3 (by simp)
    rw [h0.1, h0.2, show Tryd.prog.cellsOf 3 = 1 by kernel_rfl] at k0
    rw [h1.1, h1.2, show Tryd.prog.cellsOf 3 = 1 by kernel_rfl] at k1
    rw [h2.1, h2.2, show Tryd.prog.cellsOf 3 = 1 by kernel_rfl] at k2
    rw [h3.1, h3.2, show Tryd.prog.cellsOf 27 = 1 by kernel_rfl] at k3
    obtain ⟨n0, e0, _⟩ := k0.int' Tryd.underlying3
    obtain ⟨n1, e1, _⟩ := k1.int' Tryd.underlying3
    obtain ⟨n2, e2, _⟩ := k2.int' Tryd.underlying3
    simp at e0 e1 e2
    subst e0 e1 e2
    rcases k3.bytes' Tryd.underlying27 Tryd.underlying5 (by kernel_rfl) (by kernel_rfl) with e3 | ⟨bs, hbs, e3⟩
    · simp at e3
      subst e3
      exact ⟨⟨n0, n1, n2, []⟩, by simp, .aggS ⟨.refl _, .refl _, .refl _, .nils 1, trivial⟩⟩
    · simp at e3
      subst e3
      exact ⟨⟨n0, n1, n2, bs⟩, hbs, .aggS ⟨.refl _, .refl _, .refl _, .vec 1 _, trivial⟩⟩

theorem quads_arg {l : List (List T)} (h : ∀ (i : Nat) c, l[i]? = some c → ∃ s : SegD, s.d.length ≤ 140737488351232 ∧ SubT (mkElem 4 c) (segT s)) :
    ∃ ds : List SegD, ds.length = l.length ∧ (∀ s ∈ ds, s.d.length ≤ 140737488351232) ∧ SubC (l.map (mkElem 4)) (ds.map segT) := by
  induction l with
  | nil => exact ⟨[], rfl, by simp, .refl _⟩
  | cons c l ih =>
    obtain ⟨s, h1, h2⟩ := h 0 c rfl
    obtain ⟨ds, k1, k2, k3⟩ := ih fun i c hi => h (i + 1) c hi
    refine ⟨s :: ds, by simp [k1], fun q hq => ?_, ?_⟩
    · rcases List.mem_cons.1 hq with rfl | hq
      · exact h1
      · exact k2 q hq
    · exact SubC.append (a := [mkElem 4 c]) (c := [segT s]) (.of_sub rfl fun i e e' a b => by
        cases i with
        | zero => simp at a b; subst a b; exact h2
        | succ i => simp at a) k3

/-- An executable that comes in. -/
theorem exe_arg {cs : List T} (h : HasT Tryd.prog 25 cs) : ∃ x : ExeD, ExeB x ∧ SubT (argOf Tryd.prog 25 cs) (exeT x) := by
  have ea : argOf Tryd.prog 25 cs = .agg cs := by unfold argOf; rw [Tryd.underlying25]
  rw [ea]
  obtain ⟨hl, hf⟩ := h.struct' Tryd.underlying25
  rw [show Tryd.prog.cellsOf 25 = 4 by kernel_rfl] at hl
  match cs, hl with
  | [a, b, d, e], _ =>
    have k0 := hf _ (List.mem_cons_self)
    have k1 := hf _ (List.mem_cons_of_mem _ List.mem_cons_self)
    have k2 := hf _ (List.mem_cons_of_mem _ (List.mem_cons_of_mem _ List.mem_cons_self))
    have k3 := hf _ (List.mem_cons_of_mem _ (List.mem_cons_of_mem _ (List.mem_cons_of_mem _ List.mem_cons_self)))
    simp only [show Tryd.prog.cellsOf 3 = 1 by kernel_rfl, show Tryd.prog.cellsOf 22 = 1 by kernel_rfl, show Tryd.prog.cellsOf 23 = 1 by kernel_rfl] at k0 k1 k2 k3
    obtain ⟨n0, e0, _⟩ := k0.int' Tryd.underlying3
    obtain ⟨n1, e1, w1⟩ := k1.int' Tryd.underlying3
    simp at e0 e1
    subst e0 e1
    have segs : ∀ {t e : TypeId} {y : T}, Tryd.prog.underlying t = some (.slice e) → Tryd.prog.cellsOf e = 4 → Tryd.prog.bytesOf e = 48 → (∀ c, HasT Tryd.prog e c → ∃ s : SegD, s.d.length ≤ 140737488351232 ∧ SubT (mkElem 4 c) (segT s)) → HasT Tryd.prog t [y] →
        ∃ ds : List SegD, ds.length ≤ 2932031007317 ∧ (∀ s ∈ ds, s.d.length ≤ 140737488351232) ∧ SubT y (.vecd 4 (ds.map segT)) := by
      intro t e y ht hc hb hq hy
      rcases hy.slice' ht with h0 | ⟨l, ⟨_, hl⟩, hh, h0⟩
      · obtain rfl : y = .nils := by simpa using h0
        exact ⟨[], by simp, by simp, .nils 4⟩
      · rw [hc] at h0
        obtain rfl : y = .vec 4 (l.map (mkElem 4)) := by simpa using h0
        obtain ⟨ds, k1, k2, k3⟩ := quads_arg fun i c hi => hq c (hh i c hi)
        refine ⟨ds, ?_, k2, k3.toVecD 4⟩
        rw [hb] at hl
        simp only [reachBytes] at hl
        omega
    obtain ⟨ss, s1, s2, s3⟩ := segs (y := d) Tryd.underlying22 (by kernel_rfl) (by kernel_rfl) (fun c hc => quad_arg Tryd.underlying72 (by kernel_rfl) ⟨rfl, rfl⟩ ⟨rfl, rfl⟩ ⟨rfl, rfl⟩ ⟨rfl, rfl⟩ hc) (by simpa using k2)
    obtain ⟨ts, t1, t2, t3⟩ := segs (y := e) Tryd.underlying23 (by kernel_rfl) (by kernel_rfl) (fun c hc => quad_arg Tryd.underlying74 (by kernel_rfl) ⟨rfl, rfl⟩ ⟨rfl, rfl⟩ ⟨rfl, rfl⟩ ⟨rfl, rfl⟩ hc) (by simpa using k3)
    exact ⟨⟨n0, n1, ss, ts⟩, ⟨s1, t1, s2, t2, (i64_wf w1).2⟩, .aggS ⟨.refl _, .refl _, s3, t3, trivial⟩⟩

theorem segsC_sub (ds : List SegD) : SubT (segsC ds) (.vecd 4 (ds.map segT)) := by
  cases ds with
  | nil => exact .nils 4
  | cons d r =>
    have : SubC ((d :: r).map segV) ((d :: r).map segT) := SubC.map (fun s => (show SubT (segV s) (segT s) from .aggS ⟨.refl _, .refl _, .refl _, .vec 1 _, trivial⟩)) _
    exact this.toVecD 4

theorem copy_runs' {x : ExeD} (hb : ExeB x) : Runs Tryd.prog 12 [exeT x] (.t (exeT x)) :=
  exe_runs hb fun t h => by
    cases h with
    | mk m e st tt ss ts hs ht hsl htl => exact (copy_runs m e hs ht hsl htl).subR (.one _ _ (.t _ _ (.aggS ⟨.refl _, .refl _, segsC_sub ss, segsC_sub ts, trivial⟩)))

theorem endOf_file (x : ExeD) : (fileL x).length = endOf (at0 x) (hdsOf x) := fileL_len x

theorem snap_own (l : List T) (n : Nat) (hn : n = l.length) : T.vec 1 ((l.drop 0).take n) = .vec 1 l := by subst hn; simp

end Go.Proofs.YthpkehhghcpolaaDoor
