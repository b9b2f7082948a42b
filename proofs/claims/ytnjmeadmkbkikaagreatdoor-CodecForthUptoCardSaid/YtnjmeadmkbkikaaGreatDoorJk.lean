/-
  There and back (the laws, their arguments opened).
-/
import Derived.Test.YtnjmeadmkbkikaaGreatDoorJG
import Derived.Test.YtnjmeadmkbkikaaGreatDoorIn
namespace Go.Proofs.YtnjmeadmkbkikaaGreatDoor
open Go.IntWalk
set_option maxRecDepth 100000
set_option linter.unusedVariables false
set_option linter.unusedSimpArgs false

theorem insn_arg {cs : List T} (h : HasT Tryz.prog 48 cs) : ∃ (fm : Int) (V : List Int), I64 fm ∧ (∀ v ∈ V, I64 v) ∧ SubT (argOf Tryz.prog 48 cs) (insnT fm V) := by
  have ea : argOf Tryz.prog 48 cs = .agg cs := by unfold argOf; rw [Tryz.underlying48]
  rw [ea]
  obtain ⟨hl, hf⟩ := h.struct' Tryz.underlying48
  rw [show Tryz.prog.cellsOf 48 = 2 by kernel_rfl] at hl
  match cs, hl with
  | [c0, c1], _ =>
    have k0 := hf _ List.mem_cons_self
    have k1 := hf _ (List.mem_cons_of_mem _ List.mem_cons_self)
    simp only [show Tryz.prog.cellsOf 46 = 1 by kernel_rfl, show Tryz.prog.cellsOf 3 = 1 by kernel_rfl, List.drop_zero, List.drop_succ_cons, List.take_succ_cons, List.take_zero] at k0 k1
    obtain ⟨n0, rfl, b0⟩ := int_open Tryz.underlying3 k0
    obtain ⟨n1, l1, q1, s1⟩ := slice_open (T.int .i64) I64 Tryz.underlying46 (k := 1) (by kernel_rfl) (fun c h => int_el h) k1
    exact ⟨n0, n1, b0, q1, .aggS ⟨.refl _, s1, trivial⟩⟩
theorem small_insn {fm : Int} {V : List Int} {N : Nat} (h : SmallT N (insnT fm V)) : V.length ≤ N := by
  cases h with
  | agg _ hs =>
    have h1 := hs (.vecd 1 (V.map (T.int .i64))) (by simp)
    cases h1 with
    | vecd _ _ h2 _ => rwa [List.length_map] at h2
theorem bytes_arg {c : List T} (h : HasT Tryz.prog 34 c) (s : ∀ x ∈ c, SmallT 1048576 x) : ∃ b : List UInt8, b.length ≤ 1048576 ∧ SubT (argOf Tryz.prog 34 c) (.vecd 1 (bytesT b)) := by
  have eb : argOf Tryz.prog 34 c = c.headD .nilp := by unfold argOf; rw [Tryz.underlying34]
  rw [eb]
  rcases h.bytes' Tryz.underlying34 Tryz.underlying5 (by kernel_rfl) (by kernel_rfl) with rfl | ⟨bs, hl, rfl⟩
  · exact ⟨[], Nat.zero_le _, .nils 1⟩
  · refine ⟨bs, ?_, .vec 1 _⟩
    have h1 := s _ List.mem_cons_self
    cases h1 with
    | vec _ _ h2 _ => rwa [List.length_map] at h2

theorem forthLaw (c0 : List T) (h0 : HasT Tryz.prog 33 c0) (s0 : ∀ c ∈ c0, SmallT 1048576 c) (c1 : List T) (h1 : HasT Tryz.prog 34 c1) (s1 : ∀ c ∈ c1, SmallT 1048576 c) :
    Runs Tryz.prog 7 [argOf Tryz.prog 33 c0, argOf Tryz.prog 34 c1] (.t (.bool true)) := by
  obtain ⟨d, hdok, hd⟩ := desc_arg h0
  have ea : argOf Tryz.prog 33 c0 = .agg c0 := by unfold argOf; rw [Tryz.underlying33]
  have hsm : SmallT 1048576 (descT d) := hd.small (by rw [ea]; exact .agg _ s0)
  have hsum := small_forms hsm
  obtain ⟨hsc, hse⟩ := small_classes hsm
  obtain ⟨b, hb, hsb⟩ := bytes_arg h1 s1
  exact (forthRuns codecAlive_runs d hdok (fun f hf => Nat.le_trans (hsum f hf) (by decide)) (Nat.le_trans hsc (by decide)) (fun k hk => Nat.le_trans (hse k hk) (by decide)) b (Nat.le_trans hb (by decide))).sub ⟨hd, hsb, trivial⟩

theorem backLaw (c0 : List T) (h0 : HasT Tryz.prog 33 c0) (s0 : ∀ c ∈ c0, SmallT 1048576 c) (c1 : List T) (h1 : HasT Tryz.prog 48 c1) (s1 : ∀ c ∈ c1, SmallT 1048576 c) (c2 : List T) (h2 : HasT Tryz.prog 34 c2) (s2 : ∀ c ∈ c2, SmallT 1048576 c) :
    Runs Tryz.prog 4 [argOf Tryz.prog 33 c0, argOf Tryz.prog 48 c1, argOf Tryz.prog 34 c2] (.t (.bool true)) := by
  obtain ⟨d, hdok, hd⟩ := desc_arg h0
  have ea : argOf Tryz.prog 33 c0 = .agg c0 := by unfold argOf; rw [Tryz.underlying33]
  have hsm : SmallT 1048576 (descT d) := hd.small (by rw [ea]; exact .agg _ s0)
  have hsum := small_forms hsm
  obtain ⟨hsc, hse⟩ := small_classes hsm
  obtain ⟨fm, V, hfm, hV, hi⟩ := insn_arg h1
  have ei : argOf Tryz.prog 48 c1 = .agg c1 := by unfold argOf; rw [Tryz.underlying48]
  have hVl := small_insn (hi.small (by rw [ei]; exact .agg _ s1) : SmallT 1048576 (insnT fm V))
  obtain ⟨b, hb, hsb⟩ := bytes_arg h2 s2
  exact (backRuns codecAlive_runs d hdok (fun f hf => Nat.le_trans (hsum f hf) (by decide)) (Nat.le_trans hsc (by decide)) (fun k hk => Nat.le_trans (hse k hk) (by decide)) fm hfm V hV (Nat.le_trans hVl (by decide)) b (Nat.le_trans hb (by decide))).sub ⟨hd, hi, hsb, trivial⟩

end Go.Proofs.YtnjmeadmkbkikaaGreatDoor
