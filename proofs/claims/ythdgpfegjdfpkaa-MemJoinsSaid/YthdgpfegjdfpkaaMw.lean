/-
  The byte at an address (walk).
-/
import Derived.Test.YthdgpfegjdfpkaaMv
namespace Go.Proofs.Ythdgpfegjdfpkaa
open Go.IntWalk
set_option maxRecDepth 100000
set_option linter.unusedVariables false
set_option linter.unusedSimpArgs false
set_option maxHeartbeats 2000000

def ord_ba_6 : Ord := (.op 0 [] (.op 1 [] (.op 2 [] (.op 3 [] (.op 4 [3, 2, 1, 0] (.op 5 [] (.op 6 [] (.op 7 [] (.op 8 [7, 6, 5, 4, 3, 2, 1, 0] (.op 9 [8, 7, 6, 5, 4, 3, 2, 1, 0] (.op 10 [8, 7, 6, 5, 4, 3, 2, 1, 0] (.op 11 [8, 7, 6, 5, 4, 3, 2, 1, 0] (.op 12 [8, 7, 6, 5, 4, 3, 2, 1, 0] (.op 13 [12, 11, 10, 9, 8, 7, 6, 5, 4, 3, 2, 1, 0] (.op 14 [8, 7, 6, 5, 4, 3, 2, 1, 0] (.op 15 [8, 7, 6, 5, 4, 3, 2, 1, 0] (.op 16 [8, 7, 6, 5, 4, 3, 2, 1, 0] (.op 17 [7, 6, 5, 4, 3, 2, 1, 0] (.op 18 [] (.op 19 [] .nil))))))))))))))))))))

/-- Memory, as it is read. -/
def memT (R : List RegD) : T := .iptr [.vecd 3 (R.map regT)]

/-- The byte at an address, if its region has a permission. -/
def byteV (R : List RegD) (a : Nat) (perm : Int) : Option UInt8 :=
  match srchK R a with
  | none => none
  | some r => if (a : Int) > lastW r then none else if bitsOp .and .i64 r.perm perm ≠ perm then none else r.bs[a - r.at_]?
def ptrT : Option UInt8 → T
  | none => .nilp
  | some v => .iptr [.int .u8 v.toNat]

theorem byteAt_runs (R : List RegD) (a : Nat) (perm : Int) (hl : R.length ≤ 1000000) (hR : ∀ r ∈ R, Fine r) (ha : a < 18446744073709551616) :
    Runs Try.prog 20 [memT R, .int .u64 a, .int .i64 perm] (.t (ptrT (byteV R a perm))) := by
  have hs := srch_runs R a hl
  obtain ⟨I, hI⟩ : ∃ I, I = srchI R a 0 R.length := ⟨_, rfl⟩
  obtain ⟨f, hf⟩ : ∃ f, f = srchF R a := ⟨_, rfl⟩
  have hK : srchK R a = if f then R[I]? else if I = 0 then none else R[I - 1]? := by unfold srchK; rw [← hf, ← hI]
  have hok := srchI_ok R a R.length 0 R.length (by omega) (by omega) (by omega) (fun h => absurd h (by omega))
  rw [← hI] at hok
  rw [← hI, ← hf] at hs
  unfold srchF at hf
  rw [← hI] at hf
  have hle : ∀ {r : RegD}, srchK R a = some r → r.at_ ≤ a ∧ r ∈ R := srchK_le
  refine Runs.of_call ?_ rfl
  refine CallS.of_fn tabS_ok regS_ok Try.func20 rfl rfl ?_
  refine CallS.pure hs rfl ?_
  refine br_intro (fun c => ?_) (fun c => ?_)
  · have c : f = false := by simpa using c
    rw [c] at hK
    by_cases h0 : I = 0
    · refine st_intro (n := (-1 : Int)) (by rw [h0]; rfl) ?_
      have e : byteV R a perm = none := by unfold byteV; rw [hK, h0]; rfl
      exact And.intro (congrArg some (by rw [e]; rfl)) rfl
    · obtain ⟨r, hr, _⟩ := hok.2 (by omega)
      have hk : srchK R a = some r := by rw [hK, if_neg (by decide), if_neg h0, hr]
      obtain ⟨hra, hrm⟩ := hle hk
      have hfine := hR r hrm
      obtain ⟨g, hg⟩ : ∃ g, bitsOp .and .i64 r.perm perm = g := ⟨_, rfl⟩
      have e : byteV R a perm = if (a : Int) > lastW r then none else if bitsOp .and .i64 r.perm perm ≠ perm then none else r.bs[a - r.at_]? := by unfold byteV; rw [hk]
      refine st_intro (n := ((I - 1 : Nat) : Int)) (nat_sub (a := I - 1) (b := 1) (c := I) (by omega) (by omega)) ?_
      refine opt_intro (show (R.map regT)[((I - 1 : Nat) : Int).toNat]? = some (regT r) from by rw [Int.toNat_natCast, List.getElem?_map, hr]; rfl) ?_
      refine CallS.pure (last_runs r) rfl ?_
      refine br_intro (fun c2 => ?_) (fun c2 => ?_)
      · have c2 : (a : Int) > lastW r := of_decide_eq_true c2
        exact And.intro (congrArg some (by rw [e, if_pos c2]; rfl)) rfl
      have c2 : ¬ (a : Int) > lastW r := of_decide_eq_false c2
      refine opt_intro (show (R.map regT)[((I - 1 : Nat) : Int).toNat]? = some (regT r) from by rw [Int.toNat_natCast, List.getElem?_map, hr]; rfl) ?_
      refine st_intro hg ?_
      refine br_intro (fun c3 => ?_) (fun c3 => ?_)
      · have c3 : g ≠ perm := by simpa using c3
        exact And.intro (congrArg some (by rw [e, if_neg c2, hg, if_pos c3]; rfl)) rfl
      have c3 : ¬ g ≠ perm := by simpa using c3
      have hlt : a - r.at_ < r.bs.length := by rw [lastW_fine hfine] at c2; have := hfine.2.1; omega
      refine draw_introS ord_ba_6 (by decide +kernel) ?_
      refine opt_intro (show (R.map regT)[((I - 1 : Nat) : Int).toNat]? = some (regT r) from by rw [Int.toNat_natCast, List.getElem?_map, hr]; rfl) ?_
      refine opt_intro (show (R.map regT)[((I - 1 : Nat) : Int).toNat]? = some (regT r) from by rw [Int.toNat_natCast, List.getElem?_map, hr]; rfl) ?_
      obtain ⟨o, ho⟩ : ∃ o : Nat, o = a - r.at_ := ⟨_, rfl⟩
      refine st_intro (n := ((o : Nat) : Int)) (by rw [IntKind.wrap_u64]; omega) ?_
      refine opt_intro (show (U r.bs)[((o : Nat) : Int).toNat]? = some (.int .u8 ((r.bs[o]'(by omega)).toNat : Int)) from by rw [Int.toNat_natCast]; exact U_get _ _ _) ?_
      refine And.intro (fun j hj => by cases hj) ?_
      exact And.intro (congrArg some (by rw [e, if_neg c2, hg, if_neg c3, ← ho, List.getElem?_eq_getElem (by omega)]; rfl)) rfl
  · have c : f = true := by simpa using c
    rw [c] at hK hf
    obtain ⟨r, hr⟩ : ∃ r, R[I]? = some r := by
      cases h : R[I]? with
      | none => rw [h] at hf; cases hf
      | some r => exact ⟨r, rfl⟩
    have hk : srchK R a = some r := by rw [hK, if_pos rfl, hr]
    obtain ⟨hra, hrm⟩ := hle hk
    have hfine := hR r hrm
    obtain ⟨g, hg⟩ : ∃ g, bitsOp .and .i64 r.perm perm = g := ⟨_, rfl⟩
    have e : byteV R a perm = if (a : Int) > lastW r then none else if bitsOp .and .i64 r.perm perm ≠ perm then none else r.bs[a - r.at_]? := by unfold byteV; rw [hk]
    refine opt_intro (show (R.map regT)[((I : Nat) : Int).toNat]? = some (regT r) from by rw [Int.toNat_natCast, List.getElem?_map, hr]; rfl) ?_
    refine CallS.pure (last_runs r) rfl ?_
    refine br_intro (fun c2 => ?_) (fun c2 => ?_)
    · have c2 : (a : Int) > lastW r := of_decide_eq_true c2
      exact And.intro (congrArg some (by rw [e, if_pos c2]; rfl)) rfl
    have c2 : ¬ (a : Int) > lastW r := of_decide_eq_false c2
    refine opt_intro (show (R.map regT)[((I : Nat) : Int).toNat]? = some (regT r) from by rw [Int.toNat_natCast, List.getElem?_map, hr]; rfl) ?_
    refine st_intro hg ?_
    refine br_intro (fun c3 => ?_) (fun c3 => ?_)
    · have c3 : g ≠ perm := by simpa using c3
      exact And.intro (congrArg some (by rw [e, if_neg c2, hg, if_pos c3]; rfl)) rfl
    have c3 : ¬ g ≠ perm := by simpa using c3
    have hlt : a - r.at_ < r.bs.length := by rw [lastW_fine hfine] at c2; have := hfine.2.1; omega
    refine draw_introS ord_ba_6 (by decide +kernel) ?_
    refine opt_intro (show (R.map regT)[((I : Nat) : Int).toNat]? = some (regT r) from by rw [Int.toNat_natCast, List.getElem?_map, hr]; rfl) ?_
    refine opt_intro (show (R.map regT)[((I : Nat) : Int).toNat]? = some (regT r) from by rw [Int.toNat_natCast, List.getElem?_map, hr]; rfl) ?_
    obtain ⟨o, ho⟩ : ∃ o : Nat, o = a - r.at_ := ⟨_, rfl⟩
    refine st_intro (n := ((o : Nat) : Int)) (by rw [IntKind.wrap_u64]; omega) ?_
    refine opt_intro (show (U r.bs)[((o : Nat) : Int).toNat]? = some (.int .u8 ((r.bs[o]'(by omega)).toNat : Int)) from by rw [Int.toNat_natCast]; exact U_get _ _ _) ?_
    refine And.intro (fun j hj => by cases hj) ?_
    exact And.intro (congrArg some (by rw [e, if_neg c2, hg, if_neg c3, ← ho, List.getElem?_eq_getElem (by omega)]; rfl)) rfl

end Go.Proofs.Ythdgpfegjdfpkaa
