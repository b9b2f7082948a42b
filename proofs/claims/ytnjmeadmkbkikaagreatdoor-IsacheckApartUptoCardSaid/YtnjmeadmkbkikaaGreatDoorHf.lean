/-
  strings.Trim with the letters of literal bits: it ends; bits that are literals.
-/
import Derived.Test.YtnjmeadmkbkikaaGreatDoorHb
namespace Go.Proofs.YtnjmeadmkbkikaaGreatDoor
open Go.IntWalk
set_option maxRecDepth 100000
set_option linter.unusedVariables false
set_option linter.unusedSimpArgs false
set_option maxHeartbeats 1000000

/-- What is left of a string when letters of a set are taken off. -/
def TrimS (D : UInt8 → Bool) (s : List UInt8) (r : AV) : Prop := ∃ q : List UInt8, r = .t (.str q) ∧ q.length ≤ s.length ∧ ∀ c ∈ s, c ∈ q ∨ D c = true
theorem TrimS.noRef {D : UInt8 → Bool} {s : List UInt8} : ∀ r, TrimS D s r → noRef r = true := by rintro r ⟨s, rfl, _⟩; rfl
theorem TrimS.flat {D : UInt8 → Bool} {s : List UInt8} : ∀ r, TrimS D s r → Flat r := by rintro r ⟨s, rfl, _⟩; exact (show flatT (.str s) = true from rfl)
def Set256 (ls : List T) (D : UInt8 → Bool) : Prop := ∀ c : UInt8, ls[c.toNat]? = some (T.bool (D c))

theorem contains_runs {D : UInt8 → Bool} (ls : List T) (ha : Set256 ls D) (c : UInt8) : Runs Tryz.prog 178 [.iptr ls, .int .u8 c.toNat] (.t (.bool (D c))) := by
  refine Runs.of_call ?_ rfl
  refine CallS.of_fn tabS_ok regS_ok Tryz.func178 rfl rfl ?_
  have hb := ha c
  refine ck_intro (show inB ((c.toNat : Nat) : Int) 256 = true from by have := c.toNat_lt; simp [inB]; omega) ?_
  refine opt_intro (show (ls.drop (((c.toNat : Nat) : Int).toNat * 1))[0]? = some (T.bool (D c)) from by rw [Int.toNat_natCast, Nat.mul_one, List.getElem?_drop, Nat.add_zero]; exact hb) ?_
  exact And.intro rfl rfl

theorem trimRight_runs {D : UInt8 → Bool} (ls : List T) (ha : Set256 ls D) (s : List UInt8) (hs : s.length ≤ reachBytes) : RunsX Tryz.prog 147 [.str s, .iptr ls] (TrimS D s) := by
  refine RunsX.of_call ?_ TrimS.noRef
  refine CallS.of_fn tabS_ok regS_ok Tryz.func147 rfl rfl ?_
  refine loop_on (fun q : List UInt8 => q.length ≤ s.length ∧ ∀ c ∈ s, c ∈ q ∨ D c = true) (fun q => ⟨[(0, .t (.str q)), (1, .t (.iptr ls))], []⟩) (fun q => q.length) s ⟨Nat.le_refl _, fun c hc => .inl hc⟩ ?_ (fun q hq => ?_)
  · exact weak_of ⟨rfl, rfl, trivial⟩ rfl
  obtain ⟨hq, hD⟩ := hq
  refine br_intro (fun c => ?_) (fun c => ?_)
  · have c : 0 < q.length := by have := of_decide_eq_true c; simp at this; omega
    obtain ⟨m, hm⟩ : ∃ m, m = q.length - 1 := ⟨_, rfl⟩
    have hr : reachBytes ≤ 9223372036854775806 := by decide
    refine st_intro (n := ((m : Nat) : Int)) (by rw [IntKind.wrap_i64]; omega) ?_
    obtain ⟨z, hz, _⟩ := get_some (R := q) (i := m) (by omega)
    refine opt_intro (show q[((m : Nat) : Int).toNat]? = some z from by rw [Int.toNat_natCast]; exact hz) ?_
    refine CallS.pure (contains_runs ls ha z) rfl ?_
    refine br_intro (fun _ => ?_) (fun cz => ?_)
    · exact ⟨_, ⟨q, rfl, hq, hD⟩, _, _, rfl, .refl _⟩
    have cz : D z = true := by simpa using cz
    refine st_intro (n := ((m : Nat) : Int)) (by rw [IntKind.wrap_i64]; omega) ?_
    refine ck_intro (show (decide ((0 : Int) ≤ ((m : Nat) : Int)) && decide (((m : Nat) : Int) ≤ (q.length : Int))) = true from by simp; omega) ?_
    conv => whnf
    have e0 : (q.drop 0).take (((m : Nat) : Int).toNat - 0) = q.take m := by rw [Int.toNat_natCast]; simp
    have e : ((q.drop 0).take (((m : Nat) : Int).toNat - 0)).length = m := by rw [e0]; simp; omega
    have eq2 : q = q.take m ++ [z] := by
      have h1 : q.take (m + 1) = q.take m ++ [z] := by rw [List.take_add_one, hz]; rfl
      rw [← h1, List.take_of_length_le (by omega)]
    exact ⟨⟨(q.drop 0).take (((m : Nat) : Int).toNat - 0), by rw [e]; omega, fun c hc => by
      rw [e0]
      rcases hD c hc with h | h
      · rw [eq2] at h
        rcases List.mem_append.1 h with h | h
        · exact .inl h
        · rw [List.mem_singleton.1 h]; exact .inr cz
      · exact .inr h⟩, weak_of ⟨rfl, rfl, trivial⟩ rfl, by show ((q.drop 0).take (((m : Nat) : Int).toNat - 0)).length < q.length; rw [e]; omega⟩
  · exact ⟨_, ⟨q, rfl, hq, hD⟩, _, _, rfl, .refl _⟩

theorem trimLeft_runs {D : UInt8 → Bool} (ls : List T) (ha : Set256 ls D) (s : List UInt8) (hs : s.length ≤ reachBytes) : RunsX Tryz.prog 146 [.str s, .iptr ls] (TrimS D s) := by
  refine RunsX.of_call ?_ TrimS.noRef
  refine CallS.of_fn tabS_ok regS_ok Tryz.func146 rfl rfl ?_
  refine loop_on (fun q : List UInt8 => q.length ≤ s.length ∧ ∀ c ∈ s, c ∈ q ∨ D c = true) (fun q => ⟨[(0, .t (.str q)), (1, .t (.iptr ls))], []⟩) (fun q => q.length) s ⟨Nat.le_refl _, fun c hc => .inl hc⟩ ?_ (fun q hq => ?_)
  · exact weak_of ⟨rfl, rfl, trivial⟩ rfl
  obtain ⟨hq, hD⟩ := hq
  refine br_intro (fun c => ?_) (fun c => ?_)
  · have c : 0 < q.length := by have := of_decide_eq_true c; simp at this; omega
    obtain ⟨z, hz, _⟩ := get_some (R := q) (i := 0) c
    refine opt_intro hz ?_
    refine CallS.pure (contains_runs ls ha z) rfl ?_
    refine br_intro (fun _ => ?_) (fun cz => ?_)
    · exact ⟨_, ⟨q, rfl, hq, hD⟩, _, _, rfl, .refl _⟩
    have cz : D z = true := by simpa using cz
    refine ck_intro (show (decide ((0 : Int) ≤ 1) && decide ((1 : Int) ≤ (q.length : Int))) = true from by simp; omega) ?_
    conv => whnf
    have e : ((q.drop 1).take (q.length - 1)).length = q.length - 1 := by simp
    have e0 : (q.drop 1).take (q.length - 1) = q.drop 1 := List.take_of_length_le (by simp)
    exact ⟨⟨(q.drop 1).take (q.length - 1), by rw [e]; omega, fun c hc => by
      rw [e0]
      rcases hD c hc with h | h
      · cases q with
        | nil => cases h
        | cons y r =>
          cases hz
          rcases List.mem_cons.1 h with h | h
          · rw [h]; exact .inr cz
          · exact .inl h
      · exact .inr h⟩, weak_of ⟨rfl, rfl, trivial⟩ rfl, by show ((q.drop 1).take (q.length - 1)).length < q.length; rw [e]; omega⟩
  · exact ⟨_, ⟨q, rfl, hq, hD⟩, _, _, rfl, .refl _⟩

/-- A letter of literal bits. -/
def isBit (c : UInt8) : Bool := c.toNat == 48 || c.toNat == 49 || c.toNat == 120
def digits01x : List T := (List.range 256).map fun i => T.bool (i == 48 || i == 49 || i == 120)
theorem digits_ok : Set256 digits01x isBit := fun c => by rw [digits01x, List.getElem?_map, List.getElem?_range c.toNat_lt]; rfl

theorem makeSet_runs : Runs Tryz.prog 145 [.str [48, 49, 120]] (.tup [.t (.agg digits01x), .t (.bool true)]) := by
  refine Runs.of_call ?_ rfl
  refine CallS.of_fn tabS_ok regS_ok Tryz.func145 rfl rfl ?_
  refine loop_un 4 ?_
  exact And.intro ⟨rfl, rfl, trivial⟩ rfl

theorem trim_runs (s : List UInt8) (hs : s.length ≤ reachBytes) : RunsX Tryz.prog 94 [.str s, .str [48, 49, 120]] (TrimS isBit s) := by
  have hR := trimRight_runs digits01x digits_ok s hs
  refine RunsX.of_call ?_ TrimS.noRef
  refine CallS.of_fn tabS_ok regS_ok Tryz.func94 rfl rfl ?_
  refine br_intro (fun c => ?_) (fun c => ?_)
  · exact ⟨_, ⟨s, rfl, Nat.le_refl _, fun c hc => .inl hc⟩, _, _, rfl, .refl _⟩
  refine CallS.pure makeSet_runs rfl ?_
  refine CallS.snapXN 600 hR rfl ⟨.refl _, .refl _, trivial⟩ TrimS.flat ?_
  rintro _ ⟨q, rfl, hq, hD⟩
  refine CallS.snapXN 600 (trimLeft_runs digits01x digits_ok q (by omega)) rfl ⟨.refl _, .refl _, trivial⟩ TrimS.flat ?_
  rintro _ ⟨q2, rfl, hq2, hD2⟩
  exact ⟨_, ⟨q2, rfl, by omega, fun c hc => (hD c hc).elim (fun h => hD2 c h) .inr⟩, _, _, rfl, .refl _⟩

/-- A bit of a pattern. -/
structure BitD where
  lit : Nat
  arg : Int
  num : Int
def bitT (b : BitD) : T := .agg [.int .u8 b.lit, .int .i64 b.arg, .int .i64 b.num]

theorem literal_runs (b : BitD) : Runs Tryz.prog 59 [bitT b] (.t (.bool (decide (b.arg < 0 ∧ b.lit ≠ 120)))) := by
  refine Runs.of_call ?_ rfl
  refine CallS.of_fn tabS_ok regS_ok Tryz.func59 rfl rfl ?_
  refine br_intro (fun c => ?_) (fun c => ?_)
  · exact And.intro (congrArg (fun b => some (T.bool b)) (by
      have c : b.arg < 0 := of_decide_eq_true c
      show ((b.lit : Int) != 120) = _
      by_cases h : b.lit = 120
      · simp [h]
      · have : ((b.lit : Int) != 120) = true := by simp; omega
        rw [this]; simp [h, c])) rfl
  · exact And.intro (bno fun h => df c h.1) rfl

end Go.Proofs.YtnjmeadmkbkikaaGreatDoor
