/-
  The first place of a byte: the function that the model itself knows.
-/
import Derived.Test.YthpkehhghcpolaaDoorGb
import Derived.Lib.BytesEntry
import Derived.Lib.IndexLaws
import Derived.KernelRfl
namespace Go.Proofs.YthpkehhghcpolaaDoor
open Go.RowKit
set_option linter.unusedVariables false
set_option linter.unusedSimpArgs false
set_option maxRecDepth 100000

theorem ibs_get (bs : List UInt8) (k : Nat) (h : k < bs.length) : (bs.map fun c => T.int .u8 (c.toNat : Int))[k]? = some (.int .u8 (bs[k]'h).toNat) := by simp [List.getElem?_map, h]

theorem indexByte_runs (bs : List UInt8) (c : UInt8) : Runs Tryd.prog 123 [.vec 1 (bs.map fun c => T.int .u8 (c.toNat : Int)), .int .u8 (c.toNat : Int)] (.t (.int .i64 (Lib.indexByte bs c))) := by
  refine Runs.of_extern Tryd.func123 (by kernel_rfl) (by kernel_rfl) (by kernel_rfl) (e := Extern.BytealgIndexByte.indexByte) (by kernel_rfl) (fun w vs F hl hr => ?_) rfl (fun _ => rfl)
  have key : ∃ v, (Extern.BytealgIndexByte.indexByte vs).run Tryd.prog w = .ok v w ∧ v = .int .i64 (Lib.indexByte bs c) := by
    obtain ⟨l⟩ := vs
    match l, hl, hr with
    | [a, b'], _, hr =>
      have h1 := hr 0 _ a rfl rfl
      have h2 := hr 1 _ b' rfl rfl
      cases h2
      cases h1 with
      | vec s l b off cap sp vals hM hcap hsp hs hc hr2 =>
      by_cases hbs : bs = []
      · subst hbs
        have h0 : (Extern.BytealgIndexByte.indexByte #[.slice (some ⟨b, off, sp⟩) 0 cap, .int .u8 (c.toNat : Int)]).run Tryd.prog w = .ok (.int .i64 (-1)) w := Lib.run_indexByteString (P := Tryd.prog) .empty (c.toNat : Int) w
        exact ⟨_, h0, rfl⟩
      obtain rfl := hsp (fun e => hbs (by simpa using e))
      refine ⟨_, Lib.run_indexByteSlice w b off _ cap (bs.map fun x => (x.toNat : Int)) (by simp) (fun i hi => ?_) _, ?_⟩
      · rw [List.length_map] at hi
        have e := ibs_get bs i hi
        have h3 := hc i _ 0 _ e rfl
        have h4 := hr2 i _ 0 _ e rfl
        rw [Nat.mul_one, Nat.add_zero] at h3
        rw [h3.1]
        generalize vals i 0 = q at h4
        cases h4
        simp [List.getD_eq_getElem?_getD, hi]
      · congr 2
        · simp only [Lib.bytesOf, List.map_map]
          conv => rhs; rw [← List.map_id bs]
          refine List.map_congr_left fun x _ => ?_
          simp
        · simp
  obtain ⟨v, h1, rfl⟩ := key
  exact ⟨_, h1, fun c' H _ => .t _ _ (.int _ _)⟩

noncomputable def gext : CallN := orE bext (ixExt 123)
theorem gext_ok : CallOK Tryd.prog gext := orE_ok bext_ok (ixExt_ok indexByte_runs)
end Go.Proofs.YthpkehhghcpolaaDoor
