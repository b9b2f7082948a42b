/-
  New memory (walk).
-/
import Derived.Test.YthdgpfegjdfpkaaMw
import Derived.Test.YthdgpfegjdfpkaaMu
import Derived.Test.YthdgpfegjdfpkaaRx
namespace Go.Proofs.Ythdgpfegjdfpkaa
open Go.IntWalk
set_option maxRecDepth 100000
set_option linter.unusedVariables false
set_option linter.unusedSimpArgs false
set_option maxHeartbeats 2000000

def ord_new_13 : Ord := (.op 0 [] (.op 1 [] (.op 2 [] (.op 3 [] (.op 4 [] (.op 5 [] (.op 6 [] (.op 7 [] (.op 8 [] (.op 9 [] (.op 10 [] (.op 11 [] (.op 12 [] (.op 13 [] (.op 14 [] (.op 16 [14] (.op 17 [14] (.op 15 [17, 16] (.op 18 [] (.op 19 [] (.op 20 [] .nil)))))))))))))))))))))
def ord_new_17 : Ord := (.op 0 [] (.op 1 [0] (.op 2 [0] (.op 3 [0] (.op 4 [0] (.op 5 [4, 3, 2, 1, 0] (.op 6 [4, 3, 2, 1, 0] (.op 7 [0] (.op 8 [] (.op 9 [] (.op 10 [] .nil)))))))))))
def ord_new_23 : Ord := (.op 0 [] (.op 1 [] (.op 2 [] (.op 3 [] (.op 4 [3, 2, 1, 0] (.op 5 [] (.op 6 [] (.op 7 [] (.op 8 [7, 6, 5, 4, 3, 2, 1, 0] (.op 9 [7, 6, 5, 4, 3, 2, 1, 0] (.op 10 [7, 6, 5, 4, 3, 2, 1, 0] (.op 11 [7, 6, 5, 4, 3, 2, 1, 0] (.op 12 [11, 10, 9, 8, 7, 6, 5, 4, 3, 2, 1, 0] (.op 13 [11, 10, 9, 8, 7, 6, 5, 4, 3, 2, 1, 0] (.op 14 [7, 6, 5, 4, 3, 2, 1, 0] (.op 15 [7, 6, 5, 4, 3, 2, 1, 0] (.op 16 [7, 6, 5, 4, 3, 2, 1, 0] (.op 17 [] .nil))))))))))))))))))

theorem fits1 {n : Nat} (h : n ≤ 140737488355328) : fitsRow n 1 = true := by simp [fitsRow]; omega
theorem fits40 {n : Nat} (h : n ≤ 3000000000000) : fitsRow n 40 = true := by simp [fitsRow]; omega

theorem Runs.vecd1 {P : Program} {f : FuncId} {s : Nat} {l : List T} {r : AV} (h : Runs P f [.vec s l] r) (hne : l ≠ []) : Runs P f [.vecd s l] r :=
  ⟨h.1, fun n F w vs hF hl hr => h.2 n F w vs hF hl fun i t v hi hv => by
    match i with
    | 0 =>
      cases hi
      rcases vecd_cases (hr 0 _ v rfl hv) with ⟨h0, _⟩ | h
      · exact absurd h0 hne
      · exact h
    | i + 1 => simp at hi⟩

theorem clone_runs (bs : List UInt8) (h : 1 ≤ bs.length) (hl : bs.length ≤ 140737488351232) : Runs Try.prog 12 [.vecd 1 (U bs)] (.own 5 1 false (U bs)) := by
  have hU : (U bs).length = bs.length := U_len _
  obtain ⟨M, hM⟩ : ∃ M, M = U bs := ⟨_, rfl⟩
  rw [← hM] at hU ⊢
  have hne : M ≠ [] := fun h0 => by rw [h0] at hU; simp at hU; omega
  refine Runs.vecd1 ?_ hne
  refine Runs.of_call ?_ rfl
  refine CallS.of_fn tabS_ok regS_ok Try.func12 rfl rfl ?_
  refine Or.inl (And.intro rfl (ck_intro (fits1 (n := 0 + M.length) (by omega)) ?_))
  exact And.intro ⟨rfl, rfl, by simp [Sq.length]⟩ rfl

theorem snapD_row (H : AH) (b g n : Nat) (l : List T) (e : Nat) (hb : H[b]? = some (.arr e 1 false g (.ts l))) (hn : n = l.length) : snapDF 2 H (.sl b g 0 n) = some (.vec 1 l, [b]) := by
  subst hn
  show snapDF (1 + 1) _ _ = _
  unfold snapDF
  simp only [hb, Nat.beq_refl, Bool.false_and, Sq.part, List.drop_zero, List.take_length]

/-- What new memory is, or that it is refused. -/
def NewS (r : AV) : Prop := (∃ e : Int, e ≠ 0 ∧ r = .tup [.t .nilp, .t (.int .i64 e)]) ∨ (∃ R : List RegD, R.length ≤ 64 ∧ (∀ r ∈ R, Fine r) ∧ r = .tup [.t (memT R), .t (.int .i64 0)])

theorem new_runs (rs : List RegD) (hok : ∀ r ∈ rs, r.ok) (hl : rs.length ≤ 3518437208883) : RunsX Try.prog 6 [.vecd 3 (rs.map regT)] NewS := by
  refine RunsX.of_call ?_ ?_
  · refine CallS.of_fn tabS_ok regS_ok Try.func6 rfl rfl ?_
    refine loop_then (fun e s' => e = .exit 0 ∧ ∃ (i : Nat) (tot : Int), s' = ⟨[(14, .t (.bool (decide ((i : Int) < ((rs.map regT).length : Int))))), (0, .t (.vecd 3 (rs.map regT))), (4, .t (.int .i64 tot)), (11, .t (.vecd 3 (rs.map regT))), (12, .t (.int .i64 ((rs.map regT).length : Int))), (13, .t (.int .i64 i))], []⟩) (fun Q' hq => ?_) ?_
    · refine loop_on (fun s : Nat × Int => s.1 ≤ rs.length) (fun s => ⟨[(0, .t (.vecd 3 (rs.map regT))), (4, .t (.int .i64 s.2)), (11, .t (.vecd 3 (rs.map regT))), (12, .t (.int .i64 ((rs.map regT).length : Int))), (13, .t (.int .i64 s.1))], []⟩)
        (fun s => rs.length - s.1) (0, 0) (Nat.zero_le _) ?_ (fun ⟨i, tot⟩ hi => ?_)
      · exact weak_of ⟨rfl, rfl, rfl, rfl, rfl, trivial⟩ rfl
      have hi : i ≤ rs.length := hi
      have hmap : (rs.map regT).length = rs.length := by simp
      refine br_intro (fun c => ?_) (fun c => ?_)
      · have c : i < rs.length := by have := of_decide_eq_true c; rw [hmap] at this; simp at this; omega
        obtain ⟨r, hr, hrm⟩ := get_some (R := rs) (i := i) c
        refine opt_intro (show (rs.map regT)[((i : Nat) : Int).toNat]? = some (regT r) from by rw [Int.toNat_natCast, List.getElem?_map, hr]; rfl) ?_
        obtain ⟨g, hg⟩ : ∃ g, IntKind.i64.wrap (tot + min ((U r.bs).length : Int) 67108865) = g := ⟨_, rfl⟩
        refine st_intro hg ?_
        refine st_intro (n := ((i + 1 : Nat) : Int)) (nat_in (n := i + 1) (by omega)) ?_
        conv => whnf
        exact ⟨⟨(i + 1, g), c⟩, weak_gc [] rfl ⟨rfl, rfl, rfl, rfl, rfl, trivial⟩ trivial, by show rs.length - (i + 1) < rs.length - i; omega⟩
      · exact hq _ _ ⟨rfl, i, tot, rfl⟩
    rintro _ _ ⟨rfl, i, tot, rfl⟩
    have hmap : (rs.map regT).length = rs.length := by simp
    refine br_intro (fun c => ?_) (fun c => ?_)
    · exact ⟨_, .inl ⟨73, by decide, rfl⟩, ⟨⟨_, _, rfl, .refl _⟩, ⟨_, _, rfl, .refl _⟩, trivial⟩, rfl⟩
    have hlen : rs.length ≤ 64 := by have := of_decide_eq_false c; rw [hmap] at this; omega
    refine br_intro (fun c1 => ?_) (fun c1 => ?_)
    · exact ⟨_, .inl ⟨73, by decide, rfl⟩, ⟨⟨_, _, rfl, .refl _⟩, ⟨_, _, rfl, .refl _⟩, trivial⟩, rfl⟩
    have hat : ∀ r ∈ rs, r.at_ < 18446744073709551616 := fun r hr => (hok r hr).1
    have hbl : ∀ r ∈ rs, r.bs.length ≤ 140737488351232 := fun r hr => (hok r hr).2.2
    refine loop_then (fun e s' => (e = .exit 2 ∧ ∃ (i : Nat) (Q : List RegD), (Q.length ≤ 64 ∧ ∀ r ∈ Q, Fine r) ∧ s' = ⟨[(36, .t (.bool (decide ((i : Int) < ((rs.map regT).length : Int))))), (7, .ptr 0 0 0 0), (33, .t (.vecd 3 (rs.map regT))), (34, .t (.int .i64 ((rs.map regT).length : Int))), (35, .t (.int .i64 i))], srtH Q.length Q⟩) ∨ (e = .ret ∧ ∃ env H, s' = ⟨(3, .t (.int .i64 71)) :: (2, .t .nilp) :: env, H⟩)) (fun Q' hq => ?_) ?_
    · refine loop_on (fun s : Nat × List RegD => s.1 ≤ rs.length ∧ s.2.length ≤ s.1 ∧ ∀ r ∈ s.2, Fine r) (fun s => ⟨[(7, .ptr 0 0 0 0), (33, .t (.vecd 3 (rs.map regT))), (34, .t (.int .i64 ((rs.map regT).length : Int))), (35, .t (.int .i64 s.1))], srtH s.2.length s.2⟩)
        (fun s => rs.length - s.1) (0, []) ⟨Nat.zero_le _, Nat.le_refl _, by simp⟩ ?_ (fun ⟨i, Q⟩ hi => ?_)
      · refine Weak.trans (weak_of (s' := ⟨[(7, .ptr 0 0 0 0), (33, .t (.vecd 3 (rs.map regT))), (34, .t (.int .i64 ((rs.map regT).length : Int))), (35, .t (.int .i64 ((0 : Nat) : Int)))], [.box [.t .nils]]⟩) ⟨rfl, rfl, rfl, rfl, trivial⟩ rfl) ?_
        refine Weak.trans (weak_row (.arr tEl 3 true 0 (.ts []))) ?_
        refine weak_frz [] rfl (fun b blk' hb => .inr ⟨by simp, ?_⟩) (agree_frz ⟨rfl, rfl, rfl, rfl, trivial⟩)
        match b, hb with
        | 0, hb =>
          cases hb
          refine ⟨_, rfl, .box _ _ rfl fun j x x' hx hx' => ?_⟩
          match j, hx, hx' with
          | 0, hx, hx' => cases hx; cases hx'; exact .nil 1 _ _ rfl
          | j + 1, hx, hx' => cases hx
        | 1, hb => cases hb; exact ⟨_, rfl, .same _⟩
        | b + 2, hb => cases hb
      have hi : i ≤ rs.length ∧ Q.length ≤ i ∧ ∀ r ∈ Q, Fine r := hi
      obtain ⟨hi1, hi2, hQ⟩ := hi
      refine br_intro (fun c => ?_) (fun c => ?_)
      · have c : i < rs.length := by have := of_decide_eq_true c; rw [hmap] at this; simp at this; omega
        obtain ⟨r, hr, hrm⟩ := get_some (R := rs) (i := i) c
        have hr1 := hat r hrm
        have hr2 := hbl r hrm
        refine opt_intro (show (rs.map regT)[((i : Nat) : Int).toNat]? = some (regT r) from by rw [Int.toNat_natCast, List.getElem?_map, hr]; rfl) ?_
        refine draw_introS ord_new_13 (by decide +kernel) ?_
        refine br_intro (fun c2 => ?_) (fun c2 => ?_)
        · refine And.intro (fun j hj => by first | (cases hj; done) | exact LeX.append _ _ _ | exact LeX.refl _ _) ?_
          exact hq _ _ (.inr ⟨rfl, _, _, rfl⟩)
        refine br_intro (fun c3 => ?_) (fun c3 => ?_)
        · refine And.intro (fun j hj => by first | (cases hj; done) | exact LeX.append _ _ _ | exact LeX.refl _ _) ?_
          exact hq _ _ (.inr ⟨rfl, _, _, rfl⟩)
        have hU : (U r.bs).length = r.bs.length := U_len _
        refine br_intro (fun c4 => ?_) (fun c4 => ?_)
        · have c4 : 1 ≤ r.bs.length := by have : ((U r.bs).length : Int) > 0 := by simpa using c4
                                          omega
          refine CallS.frzG (last_runs r) rfl ⟨.refl _, trivial⟩ ?_
          refine And.intro (fun j hj => by first | (cases hj; done) | exact LeX.append _ _ _ | exact LeX.refl _ _) ?_
          refine br_intro (fun c5 => ?_) (fun c5 => ?_)
          · exact hq _ _ (.inr ⟨rfl, _, _, rfl⟩)
          have c5 : ¬ lastW r < (r.at_ : Int) := by simpa using c5
          have hfine : Fine r := ⟨hr1, c4, by unfold lastW at c5; simp only [IntKind.wrap_u64] at c5; omega⟩
          refine br_intro (fun c6 => ?_) (fun c6 => (of_decide_eq_false c6 (by rw [hU]; omega)).elim)
          refine CallS.pure (clone_runs r.bs c4 hr2) rfl ?_
          refine draw_introXS (dSw [0]) ord_new_17 (by decide +kernel) ?_
          refine Or.inl (And.intro (by simp [Sq.length]) (ck_intro (fits40 (n := Q.length + 1) (by omega)) ?_))
          refine And.intro (fun j hj => by
            simp only [List.mem_cons, List.not_mem_nil, or_false] at hj
            rcases hj with rfl
            exact LeX.set _ (List.mem_singleton.2 rfl)) ?_
          refine And.intro (fun j hj => by cases hj) ?_
          refine st_intro (n := ((i + 1 : Nat) : Int)) (nat_in (n := i + 1) (by omega)) ?_
          conv => whnf
          have eL : Q.length + 1 = (Q ++ [r]).length := by simp
          have eA : Q.map regT ++ [regT r] = (Q ++ [r]).map regT := by simp
          refine ⟨⟨(i + 1, Q ++ [r]), ⟨c, by show (Q ++ [r]).length ≤ i + 1; simp; omega, fun q hq => by
            rcases List.mem_append.1 hq with hq | hq
            · exact hQ q hq
            · rw [List.mem_singleton.1 hq]; exact hfine⟩⟩, Weak.trans (weak_frz (s' := ⟨[(7, .ptr 0 0 0 0), (33, .t (.vecd 3 (rs.map regT))), (34, .t (.int .i64 ((rs.map regT).length : Int))), (35, .t (.int .i64 ((i + 1 : Nat) : Int)))],
              [.box [.sl 1 2 0 (Q.length + 1)], .arr tEl 3 true 2 (.ts (Q.map regT ++ [regT r])), .dead, .dead, .dead]⟩) [3] rfl (fun b blk' hb => ?_) (agree_frz ⟨rfl, rfl, rfl, rfl, trivial⟩))
              (weak_gc [0, 1] rfl ⟨rfl, rfl, rfl, rfl, trivial⟩ ⟨congrArg (fun n : Nat => some (Blk.box [.sl 1 0 0 n])) eL, congrArg (fun l => some (Blk.arr tEl 3 true 0 (.ts l))) eA, trivial⟩), by show rs.length - (i + 1) < rs.length - i; omega⟩
          match b, hb with
          | 0, hb => cases hb; exact .inr ⟨by simp, _, rfl, .same _⟩
          | 1, hb =>
            cases hb
            refine .inr ⟨by simp, _, rfl, frz_last _ _ _ _ _ _ _ rfl fun j y t hy ht => ?_⟩
            match j, hy, ht with
            | 0, hy, ht => cases hy; cases ht; exact .same _
            | 1, hy, ht => cases hy; cases ht; exact .same _
            | 2, hy, ht => cases hy; cases ht; exact .snapD _ _ _ [3] 2 (snapD_row _ _ _ _ _ _ rfl rfl) (.vec 1 _) (by simp)
            | j + 3, hy, ht => cases ht
          | 2, hb => cases hb; exact .inl rfl
          | 3, hb => cases hb; exact .inl rfl
          | 4, hb => cases hb; exact .inl rfl
          | b + 5, hb => cases hb
        · have c4 : r.bs.length = 0 := by have : ¬ ((U r.bs).length : Int) > 0 := by simpa using c4
                                          omega
          refine And.intro (fun j hj => by first | (cases hj; done) | exact LeX.append _ _ _ | exact LeX.refl _ _) ?_
          refine br_intro (fun c6 => absurd (of_decide_eq_true c6 : ((U r.bs).length : Int) > 0) (by rw [hU]; omega)) (fun c6 => ?_)
          refine st_intro (n := ((i + 1 : Nat) : Int)) (nat_in (n := i + 1) (by omega)) ?_
          conv => whnf
          exact ⟨⟨(i + 1, Q), ⟨c, by show Q.length ≤ i + 1; omega, hQ⟩⟩, weak_gc [0, 1] rfl ⟨rfl, rfl, rfl, rfl, trivial⟩ ⟨rfl, rfl, trivial⟩, by show rs.length - (i + 1) < rs.length - i; omega⟩
      · exact hq _ _ (.inl ⟨rfl, i, Q, ⟨by omega, hQ⟩, rfl⟩)
    rintro _ _ (⟨rfl, i, Q, ⟨hQl, hQ⟩, rfl⟩ | ⟨rfl, env, H, rfl⟩)
    · have hQs : Q.length ≤ 1000000 := by omega
      refine CallS.mono (sort_calls Q.length Q rfl hQs) ?_
      rintro _ _ ⟨rfl, R, hp, rfl⟩
      have hRl : R.length = Q.length := hp.len
      have hR : ∀ r ∈ R, Fine r := fun r hr => hQ r (hp.mem r hr)
      refine loop_on (fun i : Nat => 1 ≤ i ∧ i ≤ 1000000) (fun i => ⟨[(7, .ptr 0 0 0 0), (10, .t (.int .i64 i))], srtH Q.length R⟩) (fun i => Q.length - i) 1 ⟨Nat.le_refl _, by omega⟩ ?_ (fun i hi => ?_)
      · exact weak_of ⟨rfl, rfl, trivial⟩ rfl
      obtain ⟨hi1, hi2⟩ := hi
      refine br_intro (fun c => ?_) (fun c => ?_)
      · have c : i < Q.length := dlt c
        obtain ⟨x, hx, hxm⟩ := get_some (R := R) (i := i) (by omega)
        obtain ⟨y, hy, hym⟩ := get_some (R := R) (i := i - 1) (by omega)
        refine draw_introS ord_new_23 (by decide +kernel) ?_
        refine ck_intro (inB0 rfl (by omega)) ?_
        refine opt_intro (map_get0 hx) ?_
        refine st_intro (n := ((i - 1 : Nat) : Int)) (nat_sub (a := i - 1) (b := 1) (c := i) (by omega) (by omega)) ?_
        refine ck_intro (inB0 rfl (by omega)) ?_
        refine opt_intro (map_get0 hy) ?_
        refine CallS.pure (last_runs y) rfl ?_
        refine And.intro (fun j _ => LeX.append _ _ _) ?_
        refine br_intro (fun c2 => ?_) (fun c2 => ?_)
        · exact ⟨_, .inl ⟨72, by decide, rfl⟩, ⟨⟨_, _, rfl, .refl _⟩, ⟨_, _, rfl, .refl _⟩, trivial⟩, rfl⟩
        · refine st_intro (n := ((i + 1 : Nat) : Int)) (nat_in (n := i + 1) (by omega)) ?_
          conv => whnf
          exact ⟨⟨i + 1, ⟨by omega, by omega⟩⟩, weak_of ⟨rfl, rfl, trivial⟩ rfl, by show Q.length - (i + 1) < Q.length - i; omega⟩
      · refine ⟨_, .inr ⟨R, by omega, hR, rfl⟩, ⟨⟨_, _, rfl, .of_eq ?_⟩, ⟨_, _, rfl, .refl _⟩, trivial⟩, rfl⟩
        show T.iptr [T.vecd 3 (((R.map regT).drop 0).take Q.length)] = memT R
        rw [List.drop_zero, List.take_of_length_le (by simp; omega)]
        rfl
    · exact ⟨_, .inl ⟨71, by decide, rfl⟩, ⟨⟨_, _, rfl, .refl _⟩, ⟨_, _, rfl, .refl _⟩, trivial⟩, rfl⟩
  · rintro r (⟨e, _, rfl⟩ | ⟨R, _, _, rfl⟩) <;> rfl

end Go.Proofs.Ythdgpfegjdfpkaa
