/-
  An executable's file is well-formed (plain).
-/
import Derived.Test.YthpkehhghcpolaaDoorExb
namespace Go.Proofs.YthpkehhghcpolaaDoor
open Go.IntWalk
set_option linter.unusedVariables false

theorem segs_ok (x : ExeD) (r : List UInt8) (hx : SoundP x) (hn : (hdsOf x).length < 65536) (he : (fileL x).length ≤ 67108864) : ∀ (n i next tls : Nat), i + n = (hdsOf x).length →
    (∀ h : i < x.ss.length, tls = 0 ∧ next ≤ x.ss[i].v.toNat) → (x.ss.length ≤ i → tls = i - x.ss.length) → segS (fileL x ++ r) n i next tls = true
  | 0, i, next, tls, hi, _, h2 => by
    have hlen := hds_len x
    have hi : i + 0 = (hdsOf x).length := hi
    have := h2 (by omega)
    have ht := hx.t
    rw [segS]
    exact decide_eq_true (by omega)
  | n + 1, i, next, tls, hi, h1, h2 => by
    have hil : i < (hdsOf x).length := by omega
    have hlen := hds_len x
    have ok := hd_ok x hx i hil
    have bad := good_hd x r hn he i hil ok
    have ho := offsOf_len (hdsOf x) (64 + 56 * (hdsOf x).length)
    have e : fileL x ++ r = frontB x (hdsOf x).length ++ (hdsB (hdsOf x) (offsOf (64 + 56 * (hdsOf x).length) (hdsOf x)) ++ (bodyOf (64 + 56 * (hdsOf x).length) (hdsOf x) ++ r)) := by simp [fileL, List.append_assoc]
    have hs := fun d n hd => sF_file x (hdsOf x) _ (bodyOf (64 + 56 * (hdsOf x).length) (hdsOf x) ++ r) ho hn i hil d n hd
    rw [← e] at hs
    have f0 := hs 0 4 (by omega); have f4 := hs 4 4 (by omega); have f16 := hs 16 8 (by omega); have f40 := hs 40 8 (by omega)
    rw [hd_0] at f0
    rw [hd_4] at f4
    rw [hd_16] at f16
    rw [hd_40] at f40
    have o1 := ok.v; have o2 := ok.sz; have o3 := ok.fl; have o4 := ok.k
    rw [Nat.mod_eq_of_lt (by omega)] at f0 f4 f16 f40
    have ih := segs_ok x r hx hn he n (i + 1)
    rw [segS, if_neg (by rw [f0]; omega), if_neg bad, f0, f4, f16, f40]
    by_cases hss : i < x.ss.length
    · obtain ⟨t0, t1⟩ := h1 hss
      have eh := hds_ss x i hss
      rw [eh] at o3 ⊢
      simp only at o3 ⊢
      rw [if_neg (by omega), if_neg (by omega)]
      refine ih _ _ (by omega) (fun h => ⟨t0, ?_⟩) (fun h => by omega)
      have q := seg_next x hx i h
      have a := addrB_iff.mp (hx.ss i hss).v; have b := (hx.ss i hss).s1; have c := addrB_iff.mp (hx.ss (i + 1) h).v
      omega
    · have eh := hds_ts x i (by omega) (by omega)
      rw [eh]
      simp only
      rw [if_pos trivial]
      have := h2 (by omega)
      exact ih _ _ (by omega) (fun h => by omega) (fun h => by omega)

theorem file_answer (x : ExeD) (r : List UInt8) (hx : SoundP x) (hn : (hdsOf x).length < 65536) (he : (fileL x).length ≤ 67108864) : answer (fileL x ++ r) = 0 := by
  have e : fileL x ++ r = frontB x (hdsOf x).length ++ (hdsB (hdsOf x) (offsOf (64 + 56 * (hdsOf x).length) (hdsOf x)) ++ (bodyOf (64 + 56 * (hdsOf x).length) (hdsOf x) ++ r)) := by simp [fileL, List.append_assoc]
  have n56 : gN (fileL x ++ r) 56 2 = (hdsOf x).length := by rw [e, fr_56]; omega
  have n54 : gN (fileL x ++ r) 54 2 = 56 := by rw [e, fr_54]
  have n32 : gN (fileL x ++ r) 32 8 = 64 := by rw [e, fr_32]
  have n60 : gN (fileL x ++ r) 60 2 = 0 := by rw [e, fr_60]
  have hl : 64 + 56 * (hdsOf x).length ≤ (fileL x ++ r).length := by
    rw [List.length_append, fileL_len]
    have := end_le (hdsOf x) (64 + 56 * (hdsOf x).length)
    omega
  have hh : hdP (fileL x ++ r) := by rw [e]; exact fr_head _ _ _
  have ht : tbP (fileL x ++ r) := ⟨.inr ⟨n54, by rw [n32]; exact Nat.le_refl _, by rw [n32, n56]; omega⟩, .inl n60, .inl n60⟩
  have hg : sgB (fileL x ++ r) = true := by
    rw [sgB, n56]
    refine segs_ok x r hx hn he _ 0 0 0 (by omega) (fun h => ⟨rfl, Nat.zero_le _⟩) (fun h => by omega)
  have hp : seP (fileL x ++ r) := fun i h1 h2 => by rw [n60] at h2; omega
  rw [answer, if_neg (by simp [hh]), if_neg (by simp [ht]), if_neg (by simp [hg]), if_neg (by simp [hp])]

end Go.Proofs.YthpkehhghcpolaaDoor
