/-
  strings.Trim with the letters of literal bits: it ends; bits that are literals.
-/
import Derived.Test.YtcogcbplmkcojaaGreatDoorHb
namespace Go.Proofs.YtcogcbplmkcojaaGreatDoor
open Go.IntWalk
set_option maxRecDepth 100000
set_option linter.unusedVariables false
set_option linter.unusedSimpArgs false
set_option maxHeartbeats 1000000
def kJ (D : UInt8 → Bool) (s : List UInt8) (r : AV) : Prop := ∃ q : List UInt8, r = .t (.str q) ∧ q.length ≤ s.length ∧ (∀ c ∈ s, c ∈ q ∨ D c = true) ∧ (∀ c ∈ q, c ∈ s) ∧ (q ≠ [] → ∃ c ∈ s, D c = false)
theorem kJ.aL {D : UInt8 → Bool} {s : List UInt8} : ∀ r, kJ D s r → aL r = true := by rintro r ⟨s, rfl, _⟩; rfl
theorem kJ.flat {D : UInt8 → Bool} {s : List UInt8} : ∀ r, kJ D s r → Flat r := by rintro r ⟨s, rfl, _⟩; exact (show gS (.str s) = true from rfl)
def wT (ls : List T) (D : UInt8 → Bool) : Prop := ∀ c : UInt8, ls[c.toNat]? = some (T.bool (D c))
theorem so {D : UInt8 → Bool} (ls : List T) (ha : wT ls D) (c : UInt8) : φ Tryz.prog 179 [.cO ls, .int .u8 c.toNat] (.t (.bool (D c))) := by
 refine φ.Λ ?_ rfl
 refine γ.ο ζ η Tryz.func179 rfl rfl ?_
 have hb := ha c
 refine ε (show pc ((c.toNat : Nat) : Int) 256 = true from by have := c.toNat_lt; simp [pc]; omega) ?_
 refine ξ (show (ls.drop (((c.toNat : Nat) : Int).toNat * 1))[0]? = some (T.bool (D c)) from by rw [Int.toNat_natCast, Nat.mul_one, List.getElem?_drop, Nat.add_zero]; exact hb) ?_
 exact And.intro rfl rfl
theorem xd {D : UInt8 → Bool} (ls : List T) (ha : wT ls D) (s : List UInt8) (hs : s.length ≤ reachBytes) : af Tryz.prog 157 [.str s, .cO ls] (kJ D s) := by
 refine af.Λ ?_ kJ.aL
 refine γ.ο ζ η Tryz.func157 rfl rfl ?_
 refine ak (fun q : List UInt8 => q.length ≤ s.length ∧ (∀ c ∈ s, c ∈ q ∨ D c = true) ∧ ∀ c ∈ q, c ∈ s) (fun q => ⟨[(0, .t (.str q)), (1, .t (.cO ls))], []⟩) (fun q => q.length) s ⟨Nat.le_refl _, fun c hc => .inl hc, fun c hc => hc⟩ ?_ (fun q hq => ?_)
 ·exact a8 ⟨rfl, rfl, trivial⟩ rfl
 obtain ⟨hq, hD, hM⟩ := hq
 refine U (fun c => ?_) (fun c => ?_)
 ·have c : 0 < q.length := by have := of_decide_eq_true c; simp at this; omega
  obtain ⟨m, hm⟩ : ∃ m, m = q.length - 1 := ⟨_, rfl⟩
  have hr : reachBytes ≤ 9223372036854775806 := by decide
  refine δ (n := ((m : Nat) : Int)) (by rw [IntKind.wrap_i64]; omega) ?_
  obtain ⟨z, hz, F2⟩ := get_some (R := q) (i := m) (by omega)
  refine ξ (show q[((m : Nat) : Int).toNat]? = some z from by rw [Int.toNat_natCast]; exact hz) ?_
  refine γ.pure (so ls ha z) rfl ?_
  refine U (fun cy => ?_) (fun cz => ?_)
  ·exact ⟨_, ⟨q, rfl, hq, hD, hM, fun _ => ⟨z, hM z F2, by simpa using cy⟩⟩, _, _, rfl, .refl _⟩
  have cz : D z = true := by simpa using cz
  refine δ (n := ((m : Nat) : Int)) (by rw [IntKind.wrap_i64]; omega) ?_
  refine ε (show (decide ((0 : Int) ≤ ((m : Nat) : Int)) && decide (((m : Nat) : Int) ≤ (q.length : Int))) = true from by simp; omega) ?_
  conv => whnf
  have e0 : (q.drop 0).take (((m : Nat) : Int).toNat - 0) = q.take m := by rw [Int.toNat_natCast]; simp
  have e : ((q.drop 0).take (((m : Nat) : Int).toNat - 0)).length = m := by rw [e0]; simp; omega
  have Sv : q = q.take m ++ [z] := by
   have h1 : q.take (m + 1) = q.take m ++ [z] := by rw [List.take_add_one, hz]; rfl
   rw [← h1, List.take_of_length_le (by omega)]
  exact ⟨⟨(q.drop 0).take (((m : Nat) : Int).toNat - 0), by rw [e]; omega, fun c hc => by
   rw [e0]
   rcases hD c hc with h | h
   ·rw [Sv] at h
    rcases List.mem_append.1 h with h | h
    ·exact .inl h
    ·rw [List.mem_singleton.1 h]; exact .inr cz
   ·exact .inr h, fun c hc => hM c (by rw [e0] at hc; exact List.mem_of_mem_take hc)⟩, a8 ⟨rfl, rfl, trivial⟩ rfl, by show ((q.drop 0).take (((m : Nat) : Int).toNat - 0)).length < q.length; rw [e]; omega⟩
 ·exact ⟨_, ⟨q, rfl, hq, hD, hM, fun h => absurd (List.length_pos_iff.2 h) (by have := of_decide_eq_false c; simp at this; rw [this]; simp)⟩, _, _, rfl, .refl _⟩
theorem y5 {D : UInt8 → Bool} (ls : List T) (ha : wT ls D) (s : List UInt8) (hs : s.length ≤ reachBytes) : af Tryz.prog 156 [.str s, .cO ls] (kJ D s) := by
 refine af.Λ ?_ kJ.aL
 refine γ.ο ζ η Tryz.func156 rfl rfl ?_
 refine ak (fun q : List UInt8 => q.length ≤ s.length ∧ (∀ c ∈ s, c ∈ q ∨ D c = true) ∧ ∀ c ∈ q, c ∈ s) (fun q => ⟨[(0, .t (.str q)), (1, .t (.cO ls))], []⟩) (fun q => q.length) s ⟨Nat.le_refl _, fun c hc => .inl hc, fun c hc => hc⟩ ?_ (fun q hq => ?_)
 ·exact a8 ⟨rfl, rfl, trivial⟩ rfl
 obtain ⟨hq, hD, hM⟩ := hq
 refine U (fun c => ?_) (fun c => ?_)
 ·have c : 0 < q.length := by have := of_decide_eq_true c; simp at this; omega
  obtain ⟨z, hz, F2⟩ := get_some (R := q) (i := 0) c
  refine ξ hz ?_
  refine γ.pure (so ls ha z) rfl ?_
  refine U (fun cy => ?_) (fun cz => ?_)
  ·exact ⟨_, ⟨q, rfl, hq, hD, hM, fun _ => ⟨z, hM z F2, by simpa using cy⟩⟩, _, _, rfl, .refl _⟩
  have cz : D z = true := by simpa using cz
  refine ε (show (decide ((0 : Int) ≤ 1) && decide ((1 : Int) ≤ (q.length : Int))) = true from by simp; omega) ?_
  conv => whnf
  have e : ((q.drop 1).take (q.length - 1)).length = q.length - 1 := by simp
  have e0 : (q.drop 1).take (q.length - 1) = q.drop 1 := List.take_of_length_le (by simp)
  exact ⟨⟨(q.drop 1).take (q.length - 1), by rw [e]; omega, fun c hc => by
   rw [e0]
   rcases hD c hc with h | h
   ·cases q with
    | nil => cases h
    | cons y r =>
     cases hz
     rcases List.mem_cons.1 h with h | h
     ·rw [h]; exact .inr cz
     ·exact .inl h
   ·exact .inr h, fun c hc => hM c (by rw [e0] at hc; exact List.mem_of_mem_drop hc)⟩, a8 ⟨rfl, rfl, trivial⟩ rfl, by show ((q.drop 1).take (q.length - 1)).length < q.length; rw [e]; omega⟩
 ·exact ⟨_, ⟨q, rfl, hq, hD, hM, fun h => absurd (List.length_pos_iff.2 h) (by have := of_decide_eq_false c; simp at this; rw [this]; simp)⟩, _, _, rfl, .refl _⟩
def rN (c : UInt8) : Bool := c.toNat == 48 || c.toNat == 49 || c.toNat == 120
def nH : List T := (List.range 256).map fun i => T.bool (i == 48 || i == 49 || i == 120)
theorem yL : wT nH rN := fun c => by rw [nH, List.getElem?_map, List.getElem?_range c.toNat_lt]; rfl
theorem Ad : φ Tryz.prog 155 [.str [48, 49, 120]] (.ao [.t (.agg nH), .t (.bool true)]) := by
 refine φ.Λ ?_ rfl
 refine γ.ο ζ η Tryz.func155 rfl rfl ?_
 refine bd 4 ?_
 exact And.intro ⟨rfl, rfl, trivial⟩ rfl
theorem EK (s : List UInt8) (hs : s.length ≤ reachBytes) : af Tryz.prog 105 [.str s, .str [48, 49, 120]] (kJ rN s) := by
 have hR := xd nH yL s hs
 refine af.Λ ?_ kJ.aL
 refine γ.ο ζ η Tryz.func105 rfl rfl ?_
 refine U (fun c => ?_) (fun c => ?_)
 ·exact ⟨_, ⟨s, rfl, Nat.le_refl _, fun c hc => .inl hc, fun c hc => hc, fun h => absurd (by simpa using c) h⟩, _, _, rfl, .refl _⟩
 refine γ.pure Ad rfl ?_
 refine γ.EX 600 hR rfl ⟨.refl _, .refl _, trivial⟩ kJ.flat ?_
 rintro _ ⟨q, rfl, hq, hD, hM, hN⟩
 refine γ.EX 600 (y5 nH yL q (by omega)) rfl ⟨.refl _, .refl _, trivial⟩ kJ.flat ?_
 rintro _ ⟨q2, rfl, yv, Ks, nE, RN⟩
 exact ⟨_, ⟨q2, rfl, by omega, fun c hc => (hD c hc).elim (fun h => Ks c h) .inr, fun c hc => hM c (nE c hc), fun h => by obtain ⟨z, h1, h2⟩ := RN h; exact ⟨z, hM z h1, h2⟩⟩, _, _, rfl, .refl _⟩
structure Θ where
 lit : Nat
 arg : Int
 num : Int
def aA (b : Θ) : T := .agg [.int .u8 b.lit, .int .i64 b.arg, .int .i64 b.num]
theorem oY (b : Θ) : φ Tryz.prog 68 [aA b] (.t (.bool (decide (b.arg < 0 ∧ b.lit ≠ 120)))) := by
 refine φ.Λ ?_ rfl
 refine γ.ο ζ η Tryz.func68 rfl rfl ?_
 refine U (fun c => ?_) (fun c => ?_)
 ·exact And.intro (congrArg (fun b => some (T.bool b)) (by
   have c : b.arg < 0 := of_decide_eq_true c
   show ((b.lit : Int) != 120) = _
   by_cases h : b.lit = 120
   ·simp [h]
   ·have : ((b.lit : Int) != 120) = true := by simp; omega
    rw [this]; simp [h, c])) rfl
 ·exact And.intro (qc fun h => df c h.1) rfl
end Go.Proofs.YtcogcbplmkcojaaGreatDoor
