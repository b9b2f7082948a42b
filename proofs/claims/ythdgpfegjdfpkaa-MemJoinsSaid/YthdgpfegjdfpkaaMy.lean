/-
  Copies of regions; bytes and numbers that are read (walks).
-/
import Derived.Test.YthdgpfegjdfpkaaMx
import Derived.Test.YthdgpfegjdfpkaaNum
namespace Go.Proofs.Ythdgpfegjdfpkaa
open Go.IntWalk
set_option maxRecDepth 100000
set_option linter.unusedVariables false
set_option linter.unusedSimpArgs false
set_option maxHeartbeats 2000000

theorem fits40b {n : Nat} (h : n ≤ 3518437208884) : fitsRow n 40 = true := by simp [fitsRow]; omega
theorem fits8 {n : Nat} (h : n ≤ 1000000) : fitsRow n 8 = true := by simp [fitsRow]; omega

theorem copy_runs (rs : List RegD) (hok : ∀ r ∈ rs, r.ok) (hl : rs.length ≤ 3518437208883) : Runs Try.prog 7 [.vecd 3 (rs.map regT)] (.t (.vecd 3 (rs.map regT))) := by
  have hmap : (rs.map regT).length = rs.length := by simp
  refine Runs.of_callD ?_ rfl
  refine CallS.of_fn tabS_ok regS_ok Try.func7 rfl rfl ?_
  refine loop_on (fun i : Nat => i ≤ rs.length) (fun i => ⟨[(3, .sl 0 0 0 (rs.take i).length), (7, .t (.vecd 3 (rs.map regT))), (8, .t (.int .i64 ((rs.map regT).length : Int))), (9, .t (.int .i64 i))], [.arr tEl 3 false 0 (.ts ((rs.take i).map regT))]⟩)
    (fun i => rs.length - i) 0 (Nat.zero_le _) ?_ (fun i hi => ?_)
  · exact weak_gc [1] rfl ⟨rfl, rfl, rfl, rfl, trivial⟩ ⟨rfl, trivial⟩
  refine br_intro (fun c => ?_) (fun c => ?_)
  · have c : i < rs.length := by have := of_decide_eq_true c; rw [hmap] at this; omega
    obtain ⟨r, hr, hrm⟩ := get_some (R := rs) (i := i) c
    have hbl := (hok r hrm).2.2
    have hU : (U r.bs).length = r.bs.length := U_len _
    have htl : (rs.take i).length = i := by rw [List.length_take]; omega
    obtain ⟨Q, hQ⟩ : ∃ Q, Q = rs.take i := ⟨_, rfl⟩
    rw [← hQ] at htl ⊢
    have hQ1 : rs.take (i + 1) = Q ++ [r] := by rw [hQ, List.take_succ_eq_append_getElem c]; congr 1; rw [List.getElem?_eq_getElem c] at hr; cases hr; rfl
    refine opt_intro (show (rs.map regT)[((i : Nat) : Int).toNat]? = some (regT r) from by rw [Int.toNat_natCast, List.getElem?_map, hr]; rfl) ?_
    refine Or.inl (And.intro rfl (ck_intro (fits1 (n := 0 + (U r.bs).length) (by omega)) ?_))
    refine Or.inl (And.intro (by simp [Sq.length]) (ck_intro (fits40b (n := Q.length + 1) (by omega)) ?_))
    refine st_intro (n := ((i + 1 : Nat) : Int)) (nat_in (n := i + 1) (by omega)) ?_
    conv => whnf
    have eL : Q.length + 1 = (rs.take (i + 1)).length := by rw [hQ1]; simp
    have eA : Q.map regT ++ [regT r] = (rs.take (i + 1)).map regT := by rw [hQ1]; simp
    refine ⟨⟨i + 1, c⟩, Weak.trans (weak_frz (s' := ⟨[(3, .sl 0 2 0 (Q.length + 1)), (7, .t (.vecd 3 (rs.map regT))), (8, .t (.int .i64 ((rs.map regT).length : Int))), (9, .t (.int .i64 ((i + 1 : Nat) : Int)))],
      [.arr tEl 3 false 2 (.ts (Q.map regT ++ [regT r])), .dead, .dead, .dead]⟩) [2] rfl (fun b blk' hb => ?_) (agree_frz ⟨rfl, rfl, rfl, rfl, trivial⟩))
      (weak_gc [0] rfl ⟨congrArg (fun n : Nat => some (AV.sl 0 0 0 n)) eL, rfl, rfl, rfl, trivial⟩ ⟨congrArg (fun l => some (Blk.arr tEl 3 false 0 (.ts l))) eA, trivial⟩), by show rs.length - (i + 1) < rs.length - i; omega⟩
    match b, hb with
    | 0, hb =>
      cases hb
      refine .inr ⟨by simp, _, rfl, frz_last _ _ _ _ _ _ _ rfl fun j y t hy ht => ?_⟩
      match j, hy, ht with
      | 0, hy, ht => cases hy; cases ht; exact .same _
      | 1, hy, ht => cases hy; cases ht; exact .same _
      | 2, hy, ht => cases hy; cases ht; exact .snapD _ _ _ [2] 2 (snapD_row _ _ _ _ _ _ rfl (by simp [Sq.length])) (.vec 1 _) (by simp)
      | j + 3, hy, ht => cases ht
    | 1, hb => cases hb; exact .inl rfl
    | 2, hb => cases hb; exact .inl rfl
    | 3, hb => cases hb; exact .inl rfl
    | b + 4, hb => cases hb
  · have c : i = rs.length := by have := of_decide_eq_false c; rw [hmap] at this; omega
    have e : rs.take i = rs := by rw [c, List.take_length]
    refine ⟨_, _, rfl, .trans _ _ _ (.of_eq ?_) (.vec 3 _)⟩
    show T.vec 3 ((((rs.take i).map regT).drop 0).take (rs.take i).length) = _
    rw [e, List.drop_zero, List.take_of_length_le (by simp)]

theorem size_runs (n : Int) : Runs Try.prog 16 [.int .i64 n] (.t (.bool (decide (1 ≤ n ∧ n ≤ 8)))) := by
  refine Runs.of_call ?_ rfl
  refine CallS.of_fn tabS_ok regS_ok Try.func16 rfl rfl ?_
  refine br_intro (fun c => ?_) (fun c => ?_)
  · exact And.intro (congrArg (fun b => some (T.bool b)) (decide_eq_decide.mpr ⟨fun h => ⟨of_decide_eq_true c, h⟩, fun h => h.2⟩)) rfl
  · exact And.intro (congrArg (fun b => some (T.bool b)) (decide_eq_false fun h => of_decide_eq_false c h.1).symm) rfl

/-- The bytes from an address on, as far as they are there. -/
def runB (β : Nat → Option UInt8) (a : Nat) : Nat → Nat → List UInt8
  | 0, _ => []
  | n + 1, k => if (a + k) % 18446744073709551616 < a then [] else match β ((a + k) % 18446744073709551616) with
    | some v => v :: runB β a n (k + 1)
    | none => []
theorem runB_len (β : Nat → Option UInt8) (a : Nat) : ∀ n k, (runB β a n k).length ≤ n
  | 0, _ => by simp [runB]
  | n + 1, k => by
    have := runB_len β a n (k + 1)
    unfold runB
    repeat' split
    all_goals simp
    omega
def ptE (v : UInt8) : T := .iptr [.int .u8 v.toNat]

theorem bytes_runs (R : List RegD) (a : Nat) (perm : Int) (n : Nat) (hl : R.length ≤ 1000000) (hR : ∀ r ∈ R, Fine r) (ha : a < 18446744073709551616) (hn : n ≤ 8) :
    Runs Try.prog 17 [memT R, .int .u64 a, .int .i64 n, .int .i64 perm] (.own 52 1 true ((runB (fun x => byteV R x perm) a n 0).map ptE)) := by
  obtain ⟨β, hβ⟩ : ∃ β, β = fun x => byteV R x perm := ⟨_, rfl⟩
  have hb : ∀ x : Nat, x < 18446744073709551616 → Runs Try.prog 20 [memT R, .int .u64 x, .int .i64 perm] (.t (ptrT (β x))) := fun x hx => by rw [hβ]; exact byteAt_runs R x perm hl hR hx
  rw [← hβ]
  obtain ⟨W, hW⟩ : ∃ W, W = runB β a n 0 := ⟨_, rfl⟩
  rw [← hW]
  refine Runs.of_call ?_ rfl
  refine CallS.of_fn tabS_ok regS_ok Try.func17 rfl rfl ?_
  refine loop_on (fun s : Nat × List UInt8 => s.1 ≤ n ∧ s.2.length ≤ s.1 ∧ s.2 ++ runB β a (n - s.1) s.1 = W) (fun s => ⟨[(0, .t (memT R)), (1, .t (.int .u64 a)), (3, .t (.int .i64 perm)), (9, .sl 0 0 0 s.2.length), (13, .t (.int .i64 n)), (14, .t (.int .i64 s.1))], [.arr 52 1 true 0 (.ts (s.2.map ptE))]⟩)
    (fun s => n - s.1) (0, []) ⟨Nat.zero_le _, Nat.le_refl _, by rw [hW]; rfl⟩ ?_ (fun ⟨k, L⟩ hi => ?_)
  · exact weak_gc [1] rfl ⟨rfl, rfl, rfl, rfl, rfl, rfl, trivial⟩ ⟨rfl, trivial⟩
  have hi : k ≤ n ∧ L.length ≤ k ∧ L ++ runB β a (n - k) k = W := hi
  obtain ⟨hk, hL, hLW⟩ := hi
  have fin : runB β a (n - k) k = [] → L = W := fun h => by rw [h, List.append_nil] at hLW; exact hLW
  refine br_intro (fun c => ?_) (fun c => ?_)
  · have c : k < n := dlt c
    obtain ⟨x, hx⟩ : ∃ x, x = (a + k) % 18446744073709551616 := ⟨_, rfl⟩
    have hrun : runB β a (n - k) k = if x < a then [] else match β x with
        | some v => v :: runB β a (n - (k + 1)) (k + 1)
        | none => [] := by
      rw [show n - k = (n - (k + 1)) + 1 by omega, runB, ← hx]
    have hx2 : x < 18446744073709551616 := by rw [hx]; exact Nat.mod_lt _ (by decide)
    have hb := hb x hx2
    refine st_intro (n := ((k : Nat) : Int)) (nat_inu (n := k) (by omega)) ?_
    refine st_intro (n := ((x : Nat) : Int)) (by rw [IntKind.wrap_u64, hx]; omega) ?_
    refine br_intro (fun c2 => ?_) (fun c2 => ?_)
    · have c2 : x < a := dlt c2
      have e : L = W := fin (by rw [hrun, if_pos c2])
      exact And.intro ⟨congrArg (fun l : List UInt8 => some (Blk.arr 52 1 true 0 (.ts (l.map ptE)))) e, rfl, by rw [← e, List.length_map]⟩ rfl
    have c2 : ¬ x < a := by have := dge c2; omega
    rw [if_neg c2] at hrun
    cases hv : β x with
    | none =>
      rw [hv] at hrun hb
      have e : L = W := fin hrun
      refine CallS.pure (show Runs _ _ _ (.t .nilp) from hb) rfl ?_
      exact And.intro ⟨congrArg (fun l : List UInt8 => some (Blk.arr 52 1 true 0 (.ts (l.map ptE)))) e, rfl, by rw [← e, List.length_map]⟩ rfl
    | some v =>
      rw [hv] at hrun hb
      refine CallS.pure (show Runs _ _ _ (.t (.iptr [.int .u8 v.toNat])) from hb) rfl ?_
      refine Or.inl (And.intro (by simp [Sq.length]) (ck_intro (fits8 (n := L.length + 1) (by omega)) ?_))
      refine st_intro (n := ((k + 1 : Nat) : Int)) (nat_in (n := k + 1) (by omega)) ?_
      conv => whnf
      exact ⟨⟨(k + 1, L ++ [v]), ⟨c, by show (L ++ [v]).length ≤ k + 1; simp; omega, by rw [← hLW, hrun]; simp⟩⟩,
        weak_gc [0] rfl ⟨rfl, rfl, rfl, congrArg (fun n : Nat => some (AV.sl 0 0 0 n)) (show L.length + 1 = (L ++ [v]).length by simp), rfl, rfl, trivial⟩ ⟨congrArg (fun l => some (Blk.arr 52 1 true 0 (.ts l))) (show L.map ptE ++ [ptE v] = (L ++ [v]).map ptE by simp), trivial⟩, by show n - (k + 1) < n - k; omega⟩
  · have c : k = n := by have := dge c; omega
    have e : L = W := fin (by rw [c, Nat.sub_self]; rfl)
    exact And.intro ⟨congrArg (fun l : List UInt8 => some (Blk.arr 52 1 true 0 (.ts (l.map ptE)))) e, rfl, by rw [← e, List.length_map]⟩ rfl

end Go.Proofs.Ythdgpfegjdfpkaa
