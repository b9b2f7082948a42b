/-
  An executable's file, read: one program header (walks). PRINTED by rdgen.py.
-/
import Derived.Test.YthpkehhghcpolaaDoorRc
namespace Go.Proofs.YthpkehhghcpolaaDoor
open Go.IntWalk
set_option maxRecDepth 100000
set_option linter.unusedVariables false
set_option linter.unusedSimpArgs false
set_option maxHeartbeats 2000000

def ord_34_14 : Ord := (.op 0 [] (.op 1 [0] (.op 2 [0] (.op 3 [0] (.op 4 [0] (.op 5 [4, 3, 2, 1, 0] (.op 6 [4, 3, 2, 1, 0] (.op 7 [4, 3, 2, 1, 0] (.op 8 [7, 6, 5, 4, 3, 2, 1, 0] (.op 9 [7, 6, 5, 4, 3, 2, 1, 0] (.op 10 [7, 6, 5, 4, 3, 2, 1, 0] (.op 11 [10, 9, 8, 7, 6, 5, 4, 3, 2, 1, 0] (.op 12 [10, 9, 8, 7, 6, 5, 4, 3, 2, 1, 0] (.op 13 [10, 9, 8, 7, 6, 5, 4, 3, 2, 1, 0] (.op 14 [13, 12, 11, 10, 9, 8, 7, 6, 5, 4, 3, 2, 1, 0] (.op 15 [4, 3, 2, 1, 0] (.op 16 [4, 3, 2, 1, 0] (.op 17 [0] (.op 18 [] (.op 19 [] (.op 20 [] .nil)))))))))))))))))))))
theorem draw_introX2 {ops : Array Oper} {s : St} {K : St → Prop} (D : Nat → List Nat) (σ : Ord) (h : drawOK ops (masks ops) σ [] [] = true) (k : xdr tabS (CallS Tryd.prog) ops D σ s K) : regS ops s K := ⟨D, σ, h, k⟩
def dS2 (l : List Nat) (j : Nat) : List Nat := if l.contains j then [2] else []
def dS3 (l : List Nat) (j : Nat) : List Nat := if l.contains j then [3] else []
theorem i64n {n : Nat} (h : n ≤ 9223372036854775807) : IntKind.i64.wrap (n : Int) = n := by rw [IntKind.wrap_i64]; omega
theorem u64n {n : Nat} (h : n < 18446744073709551616) : IntKind.u64.wrap (n : Int) = n := by rw [IntKind.wrap_u64]; omega
theorem u32n {n : Nat} (h : n < 4294967296) : IntKind.u32.wrap (n : Int) = n := by rw [IntKind.wrap_u32]; omega

abbrev segE : Nat := 72
abbrev tlsE : Nat := 74

theorem read_seg {bs : List UInt8} {a fl o v fz sz al : Nat} {d : List UInt8} (F : HdAt bs a 1 fl o v fz sz al d) (hm : o % 4096 = v % 4096) (hz : 1 ≤ sz) (m e : Int) (S R : List T) (hS : S.length ≤ 33) :
    CallS Tryd.prog 34 [.ptr 0 0 0 0, .t (.vec 1 (U bs)), .t (.int .u64 a)] [.box [.t (.int .i64 m), .t (.int .i64 e), .sl 2 0 0 S.length, .sl 3 0 0 R.length], .box [.t (.int .i64 0)], .arr segE 4 true 0 (.ts S), .arr tlsE 4 true 0 (.ts R)] (fun r H' => r = .tup [] ∧ H' = [.box [.t (.int .i64 m), .t (.int .i64 e), .sl 2 2 0 (S.length + 1), .sl 3 0 0 R.length], .box [.t (.int .i64 0)], .arr segE 4 true 2 (.ts (S ++ [segT ⟨fl, v, sz, d⟩])), .arr tlsE 4 true 0 (.ts R)]) := by
  obtain ⟨hbl, ha, g0, g4, g8, g16, g32, g40, g48, fl7, o2, v2, f2, s2, al2, dl, dd⟩ := F
  have h0 := enum_runs bs hbl (a := a) (n := 4) (by omega) (by omega)
  have h4 := enum_runs bs hbl (a := a + 4) (n := 4) (by omega) (by omega)
  have h8 := enum_runs bs hbl (a := a + 8) (n := 8) (by omega) (by omega)
  have h16 := enum_runs bs hbl (a := a + 16) (n := 8) (by omega) (by omega)
  have h32 := enum_runs bs hbl (a := a + 32) (n := 8) (by omega) (by omega)
  have h40 := enum_runs bs hbl (a := a + 40) (n := 8) (by omega) (by omega)
  have h48 := enum_runs bs hbl (a := a + 48) (n := 8) (by omega) (by omega)
  rw [g0] at h0; rw [g4] at h4; rw [g8] at h8; rw [g16] at h16; rw [g32] at h32; rw [g40] at h40; rw [g48] at h48
  obtain ⟨a4, ha4⟩ : ∃ x, x = a + 4 := ⟨_, rfl⟩
  obtain ⟨a8, ha8⟩ : ∃ x, x = a + 8 := ⟨_, rfl⟩
  obtain ⟨a16, ha16⟩ : ∃ x, x = a + 16 := ⟨_, rfl⟩
  obtain ⟨a32, ha32⟩ : ∃ x, x = a + 32 := ⟨_, rfl⟩
  obtain ⟨a40, ha40⟩ : ∃ x, x = a + 40 := ⟨_, rfl⟩
  obtain ⟨a48, ha48⟩ : ∃ x, x = a + 48 := ⟨_, rfl⟩
  rw [← ha4] at h4; rw [← ha8] at h8; rw [← ha16] at h16; rw [← ha32] at h32; rw [← ha40] at h40; rw [← ha48] at h48
  obtain ⟨N, hN⟩ : ∃ N, N = bs.length := ⟨_, rfl⟩
  have hU : (U bs).length = N := by rw [U_len, hN]
  refine CallS.gc (Q := fun r H' => ∃ r' H'', Weak 4 ⟨[(0, r)], H'⟩ ⟨[(0, r')], H''⟩ ∧ (r' = .tup [] ∧ H'' = [.box [.t (.int .i64 m), .t (.int .i64 e), .sl 2 2 0 (S.length + 1), .sl 3 0 0 R.length], .box [.t (.int .i64 0)], .arr segE 4 true 2 (.ts (S ++ [segT ⟨fl, v, sz, d⟩])), .arr tlsE 4 true 0 (.ts R)])) ?_ (fun r H' h => h)
  refine CallS.of_fn tabS_ok regS_ok Tryd.func34 rfl rfl ?_
  refine CallS.pure h0 rfl ?_
  refine st_intro (n := ((a4 : Nat) : Int)) ((u64n (n := a + 4) (by omega)).trans (by rw [ha4])) ?_
  refine CallS.pure h4 rfl ?_
  refine st_intro (n := ((fl : Nat) : Int)) (u32n (by omega)) ?_
  refine st_intro (n := ((a8 : Nat) : Int)) ((u64n (n := a + 8) (by omega)).trans (by rw [ha8])) ?_
  refine CallS.pure h8 rfl ?_
  refine st_intro (n := ((a16 : Nat) : Int)) ((u64n (n := a + 16) (by omega)).trans (by rw [ha16])) ?_
  refine CallS.pure h16 rfl ?_
  refine st_intro (n := ((a32 : Nat) : Int)) ((u64n (n := a + 32) (by omega)).trans (by rw [ha32])) ?_
  refine CallS.pure h32 rfl ?_
  refine st_intro (n := ((a40 : Nat) : Int)) ((u64n (n := a + 40) (by omega)).trans (by rw [ha40])) ?_
  refine CallS.pure h40 rfl ?_
  refine st_intro (n := ((a48 : Nat) : Int)) ((u64n (n := a + 48) (by omega)).trans (by rw [ha48])) ?_
  refine CallS.pure h48 rfl ?_
  refine loop_un 6 ?_
  refine CallS.pure (must_ok (decide_eq_true (by omega))) rfl ?_
  refine CallS.pure (must_ok (decide_eq_true (by omega))) rfl ?_
  refine CallS.pure (must_ok (decide_eq_true (by omega))) rfl ?_
  refine CallS.pure (must_ok (decide_eq_true (by omega))) rfl ?_
  refine CallS.pure (must_ok (decide_eq_true (by omega))) rfl ?_
  refine CallS.pure (must_ok (decide_eq_true (by omega))) rfl ?_
  by_cases hz0 : 0 < fz
  · obtain ⟨hd1, hd2⟩ := dd hz0
    refine br_intro (fun _ => ?_) (fun c => ?_)
    rotate_left 1
    · have : ¬ (fz : Int) > 0 := of_decide_eq_false c
      omega
    refine st_intro (n := ((N : Nat) : Int)) (show IntKind.u64.wrap (((U bs).length : Nat) : Int) = _ from by rw [hU, IntKind.wrap_u64]; omega) ?_
    refine br_intro (fun _ => ?_) (fun c => ?_)
    rotate_left 1
    · have : ¬ (o : Int) ≤ (N : Int) := of_decide_eq_false c
      omega
    refine st_intro (n := ((N : Nat) : Int)) (show IntKind.u64.wrap (((U bs).length : Nat) : Int) = _ from by rw [hU, IntKind.wrap_u64]; omega) ?_
    obtain ⟨q, hq⟩ : ∃ q, q = N - o := ⟨_, rfl⟩
    refine st_intro (n := ((q : Nat) : Int)) (show IntKind.u64.wrap ((N : Int) - (o : Int)) = _ from by rw [IntKind.wrap_u64]; omega) ?_
    refine CallS.pure (must_ok (decide_eq_true (by omega))) rfl ?_
    obtain ⟨p, hp⟩ : ∃ p, p = o + fz := ⟨_, rfl⟩
    refine st_intro (n := ((p : Nat) : Int)) ((u64n (n := o + fz) (by omega)).trans (by rw [hp])) ?_
    refine ck_intro (by rw [hU]; simp; omega) ?_
    refine ck_intro (by simp; omega) ?_
    refine br_intro (fun _ => ?_) (fun c => ?_)
    rotate_left 1
    · have : ¬ (fl : Int) ≤ 7 := of_decide_eq_false c
      omega
    obtain ⟨r, hr⟩ : ∃ r, r = o % 4096 := ⟨_, rfl⟩
    refine st_intro (n := ((r : Nat) : Int)) (show ((o : Nat) : Int).tmod 4096 = _ from by rw [Int.tmod_eq_emod_of_nonneg (by omega)]; omega) ?_
    refine st_intro (n := ((r : Nat) : Int)) (show ((v : Nat) : Int).tmod 4096 = _ from by rw [Int.tmod_eq_emod_of_nonneg (by omega)]; omega) ?_
    refine CallS.pure (must_ok (by simp)) rfl ?_
    refine br_intro (fun _ => ?_) (fun c => ?_)
    rotate_left 1
    · have : ¬ (sz : Int) > 0 := of_decide_eq_false c
      omega
    refine draw_introX2 (dS2 [0]) ord_34_14 (by decide +kernel) ?_
    refine st_intro (n := ((fl : Nat) : Int)) (i64n (by omega)) ?_
    refine st_intro (n := ((v : Nat) : Int)) (i64n (by omega)) ?_
    refine st_intro (n := ((sz : Nat) : Int)) (i64n (by omega)) ?_
    refine Or.inl (And.intro (by simp [Sq.length]) (ck_intro (fits48 (n := S.length + 1) (by omega)) ?_))
    refine And.intro (fun j hj => by
      simp only [List.mem_cons, List.not_mem_nil, or_false] at hj
      rcases hj with rfl
      exact LeX.set _ (List.mem_singleton.2 rfl)) ?_
    refine And.intro (fun j hj => by cases hj) ?_
    conv => whnf
    refine ⟨.tup [], [.box [.t (.int .i64 m), .t (.int .i64 e), .sl 2 2 0 (S.length + 1), .sl 3 0 0 R.length], .box [.t (.int .i64 0)], .arr segE 4 true 2 (.ts (S ++ [segT ⟨fl, v, sz, d⟩])), .arr tlsE 4 true 0 (.ts R)], Weak.trans (weak_frz (s' := ⟨[(0, .tup [])], [.box [.t (.int .i64 m), .t (.int .i64 e), .sl 2 2 0 (S.length + 1), .sl 3 0 0 R.length], .box [.t (.int .i64 0)], .arr segE 4 true 2 (.ts (S ++ [segT ⟨fl, v, sz, d⟩])), .arr tlsE 4 true 0 (.ts R), .dead, .dead, .dead, .dead]⟩) [] rfl (fun b blk' hb => ?_) (agree_frz ⟨rfl, trivial⟩)) (weak_gc [0, 1, 2, 3] rfl ⟨rfl, trivial⟩ ⟨rfl, rfl, rfl, rfl, trivial⟩), rfl, rfl⟩
    match b, hb with
    | 0, hb => cases hb; exact .inr ⟨by simp, _, rfl, .same _⟩
    | 1, hb => cases hb; exact .inr ⟨by simp, _, rfl, .same _⟩
    | 2, hb =>
      cases hb
      refine .inr ⟨by simp, _, rfl, frz_lastT _ _ _ _ _ _ _ rfl fun j y y' hy hy' => ?_⟩
      match j, hy, hy' with
      | 0, hy, hy' => cases hy; cases hy'; exact .refl _
      | 1, hy, hy' => cases hy; cases hy'; exact .refl _
      | 2, hy, hy' => cases hy; cases hy'; exact .refl _
      | 3, hy, hy' => cases hy; cases hy'; exact .trans _ _ _ (.of_eq (congrArg (T.vec 1) (show _ = U d from by rw [Int.toNat_natCast, Int.toNat_natCast, hp, Nat.add_sub_cancel_left, ← hd2]; simp [U, List.map_take, List.map_drop]))) (.vec 1 _)
    | 3, hb => cases hb; exact .inr ⟨by simp, _, rfl, .same _⟩
    | 4, hb => cases hb; exact .inl rfl
    | 5, hb => cases hb; exact .inl rfl
    | 6, hb => cases hb; exact .inl rfl
    | 7, hb => cases hb; exact .inl rfl

  · refine br_intro (fun c => ?_) (fun _ => ?_)
    · have : (fz : Int) > 0 := of_decide_eq_true c
      omega
    refine br_intro (fun _ => ?_) (fun c => ?_)
    rotate_left 1
    · have : ¬ (fl : Int) ≤ 7 := of_decide_eq_false c
      omega
    obtain ⟨r, hr⟩ : ∃ r, r = o % 4096 := ⟨_, rfl⟩
    refine st_intro (n := ((r : Nat) : Int)) (show ((o : Nat) : Int).tmod 4096 = _ from by rw [Int.tmod_eq_emod_of_nonneg (by omega)]; omega) ?_
    refine st_intro (n := ((r : Nat) : Int)) (show ((v : Nat) : Int).tmod 4096 = _ from by rw [Int.tmod_eq_emod_of_nonneg (by omega)]; omega) ?_
    refine CallS.pure (must_ok (by simp)) rfl ?_
    refine br_intro (fun _ => ?_) (fun c => ?_)
    rotate_left 1
    · have : ¬ (sz : Int) > 0 := of_decide_eq_false c
      omega
    refine draw_introX2 (dS2 [0]) ord_34_14 (by decide +kernel) ?_
    refine st_intro (n := ((fl : Nat) : Int)) (i64n (by omega)) ?_
    refine st_intro (n := ((v : Nat) : Int)) (i64n (by omega)) ?_
    refine st_intro (n := ((sz : Nat) : Int)) (i64n (by omega)) ?_
    refine Or.inl (And.intro (by simp [Sq.length]) (ck_intro (fits48 (n := S.length + 1) (by omega)) ?_))
    refine And.intro (fun j hj => by
      simp only [List.mem_cons, List.not_mem_nil, or_false] at hj
      rcases hj with rfl
      exact LeX.set _ (List.mem_singleton.2 rfl)) ?_
    refine And.intro (fun j hj => by cases hj) ?_
    conv => whnf
    refine ⟨.tup [], [.box [.t (.int .i64 m), .t (.int .i64 e), .sl 2 2 0 (S.length + 1), .sl 3 0 0 R.length], .box [.t (.int .i64 0)], .arr segE 4 true 2 (.ts (S ++ [segT ⟨fl, v, sz, d⟩])), .arr tlsE 4 true 0 (.ts R)], Weak.trans (weak_frz (s' := ⟨[(0, .tup [])], [.box [.t (.int .i64 m), .t (.int .i64 e), .sl 2 2 0 (S.length + 1), .sl 3 0 0 R.length], .box [.t (.int .i64 0)], .arr segE 4 true 2 (.ts (S ++ [segT ⟨fl, v, sz, d⟩])), .arr tlsE 4 true 0 (.ts R), .dead, .dead, .dead, .dead]⟩) [6] rfl (fun b blk' hb => ?_) (agree_frz ⟨rfl, trivial⟩)) (weak_gc [0, 1, 2, 3] rfl ⟨rfl, trivial⟩ ⟨rfl, rfl, rfl, rfl, trivial⟩), rfl, rfl⟩
    match b, hb with
    | 0, hb => cases hb; exact .inr ⟨by simp, _, rfl, .same _⟩
    | 1, hb => cases hb; exact .inr ⟨by simp, _, rfl, .same _⟩
    | 2, hb =>
      cases hb
      refine .inr ⟨by simp, _, rfl, frz_last _ _ _ _ _ _ _ rfl fun j y y' hy hy' => ?_⟩
      match j, hy, hy' with
      | 0, hy, hy' => cases hy; cases hy'; exact .same _
      | 1, hy, hy' => cases hy; cases hy'; exact .same _
      | 2, hy, hy' => cases hy; cases hy'; exact .same _
      | 3, hy, hy' => cases hy; cases hy'; exact .snapD _ (.vecd 1 []) _ [6] 1 rfl (.of_eq (congrArg (T.vecd 1) (show [] = U d from by rw [List.eq_nil_of_length_eq_zero (l := d) (by omega)]; rfl))) (by simp)
    | 3, hb => cases hb; exact .inr ⟨by simp, _, rfl, .same _⟩
    | 4, hb => cases hb; exact .inl rfl
    | 5, hb => cases hb; exact .inl rfl
    | 6, hb => cases hb; exact .inl rfl
    | 7, hb => cases hb; exact .inl rfl

theorem read_tls {bs : List UInt8} {a fl o v fz sz al : Nat} {d : List UInt8} (F : HdAt bs a 7 fl o v fz sz al d) (m e : Int) (S : List T) (hS : S.length ≤ 33) :
    CallS Tryd.prog 34 [.ptr 0 0 0 0, .t (.vec 1 (U bs)), .t (.int .u64 a)] [.box [.t (.int .i64 m), .t (.int .i64 e), .sl 2 0 0 S.length, .sl 3 0 0 0], .box [.t (.int .i64 0)], .arr segE 4 true 0 (.ts S), .arr tlsE 4 true 0 (.ts [])] (fun r H' => r = .tup [] ∧ H' = [.box [.t (.int .i64 m), .t (.int .i64 e), .sl 2 0 0 S.length, .sl 3 2 0 1], .box [.t (.int .i64 0)], .arr segE 4 true 0 (.ts S), .arr tlsE 4 true 2 (.ts [segT ⟨v, sz, al, d⟩])]) := by
  obtain ⟨hbl, ha, g0, g4, g8, g16, g32, g40, g48, fl7, o2, v2, f2, s2, al2, dl, dd⟩ := F
  have h0 := enum_runs bs hbl (a := a) (n := 4) (by omega) (by omega)
  have h4 := enum_runs bs hbl (a := a + 4) (n := 4) (by omega) (by omega)
  have h8 := enum_runs bs hbl (a := a + 8) (n := 8) (by omega) (by omega)
  have h16 := enum_runs bs hbl (a := a + 16) (n := 8) (by omega) (by omega)
  have h32 := enum_runs bs hbl (a := a + 32) (n := 8) (by omega) (by omega)
  have h40 := enum_runs bs hbl (a := a + 40) (n := 8) (by omega) (by omega)
  have h48 := enum_runs bs hbl (a := a + 48) (n := 8) (by omega) (by omega)
  rw [g0] at h0; rw [g4] at h4; rw [g8] at h8; rw [g16] at h16; rw [g32] at h32; rw [g40] at h40; rw [g48] at h48
  obtain ⟨a4, ha4⟩ : ∃ x, x = a + 4 := ⟨_, rfl⟩
  obtain ⟨a8, ha8⟩ : ∃ x, x = a + 8 := ⟨_, rfl⟩
  obtain ⟨a16, ha16⟩ : ∃ x, x = a + 16 := ⟨_, rfl⟩
  obtain ⟨a32, ha32⟩ : ∃ x, x = a + 32 := ⟨_, rfl⟩
  obtain ⟨a40, ha40⟩ : ∃ x, x = a + 40 := ⟨_, rfl⟩
  obtain ⟨a48, ha48⟩ : ∃ x, x = a + 48 := ⟨_, rfl⟩
  rw [← ha4] at h4; rw [← ha8] at h8; rw [← ha16] at h16; rw [← ha32] at h32; rw [← ha40] at h40; rw [← ha48] at h48
  obtain ⟨N, hN⟩ : ∃ N, N = bs.length := ⟨_, rfl⟩
  have hU : (U bs).length = N := by rw [U_len, hN]
  refine CallS.gc (Q := fun r H' => ∃ r' H'', Weak 4 ⟨[(0, r)], H'⟩ ⟨[(0, r')], H''⟩ ∧ (r' = .tup [] ∧ H'' = [.box [.t (.int .i64 m), .t (.int .i64 e), .sl 2 0 0 S.length, .sl 3 2 0 1], .box [.t (.int .i64 0)], .arr segE 4 true 0 (.ts S), .arr tlsE 4 true 2 (.ts [segT ⟨v, sz, al, d⟩])])) ?_ (fun r H' h => h)
  refine CallS.of_fn tabS_ok regS_ok Tryd.func34 rfl rfl ?_
  refine CallS.pure h0 rfl ?_
  refine st_intro (n := ((a4 : Nat) : Int)) ((u64n (n := a + 4) (by omega)).trans (by rw [ha4])) ?_
  refine CallS.pure h4 rfl ?_
  refine st_intro (n := ((fl : Nat) : Int)) (u32n (by omega)) ?_
  refine st_intro (n := ((a8 : Nat) : Int)) ((u64n (n := a + 8) (by omega)).trans (by rw [ha8])) ?_
  refine CallS.pure h8 rfl ?_
  refine st_intro (n := ((a16 : Nat) : Int)) ((u64n (n := a + 16) (by omega)).trans (by rw [ha16])) ?_
  refine CallS.pure h16 rfl ?_
  refine st_intro (n := ((a32 : Nat) : Int)) ((u64n (n := a + 32) (by omega)).trans (by rw [ha32])) ?_
  refine CallS.pure h32 rfl ?_
  refine st_intro (n := ((a40 : Nat) : Int)) ((u64n (n := a + 40) (by omega)).trans (by rw [ha40])) ?_
  refine CallS.pure h40 rfl ?_
  refine st_intro (n := ((a48 : Nat) : Int)) ((u64n (n := a + 48) (by omega)).trans (by rw [ha48])) ?_
  refine CallS.pure h48 rfl ?_
  refine loop_un 6 ?_
  refine CallS.pure (must_ok (decide_eq_true (by omega))) rfl ?_
  refine CallS.pure (must_ok (decide_eq_true (by omega))) rfl ?_
  refine CallS.pure (must_ok (decide_eq_true (by omega))) rfl ?_
  refine CallS.pure (must_ok (decide_eq_true (by omega))) rfl ?_
  refine CallS.pure (must_ok (decide_eq_true (by omega))) rfl ?_
  refine CallS.pure (must_ok (decide_eq_true (by omega))) rfl ?_
  by_cases hz0 : 0 < fz
  · obtain ⟨hd1, hd2⟩ := dd hz0
    refine br_intro (fun _ => ?_) (fun c => ?_)
    rotate_left 1
    · have : ¬ (fz : Int) > 0 := of_decide_eq_false c
      omega
    refine st_intro (n := ((N : Nat) : Int)) (show IntKind.u64.wrap (((U bs).length : Nat) : Int) = _ from by rw [hU, IntKind.wrap_u64]; omega) ?_
    refine br_intro (fun _ => ?_) (fun c => ?_)
    rotate_left 1
    · have : ¬ (o : Int) ≤ (N : Int) := of_decide_eq_false c
      omega
    refine st_intro (n := ((N : Nat) : Int)) (show IntKind.u64.wrap (((U bs).length : Nat) : Int) = _ from by rw [hU, IntKind.wrap_u64]; omega) ?_
    obtain ⟨q, hq⟩ : ∃ q, q = N - o := ⟨_, rfl⟩
    refine st_intro (n := ((q : Nat) : Int)) (show IntKind.u64.wrap ((N : Int) - (o : Int)) = _ from by rw [IntKind.wrap_u64]; omega) ?_
    refine CallS.pure (must_ok (decide_eq_true (by omega))) rfl ?_
    obtain ⟨p, hp⟩ : ∃ p, p = o + fz := ⟨_, rfl⟩
    refine st_intro (n := ((p : Nat) : Int)) ((u64n (n := o + fz) (by omega)).trans (by rw [hp])) ?_
    refine ck_intro (by rw [hU]; simp; omega) ?_
    refine ck_intro (by simp; omega) ?_
    refine CallS.pure (must_ok rfl) rfl ?_
    refine draw_introX2 (dS3 [0]) ord_34_14 (by decide +kernel) ?_
    refine st_intro (n := ((v : Nat) : Int)) (i64n (by omega)) ?_
    refine st_intro (n := ((sz : Nat) : Int)) (i64n (by omega)) ?_
    refine st_intro (n := ((al : Nat) : Int)) (i64n (by omega)) ?_
    refine Or.inl (And.intro (by simp [Sq.length]) (ck_intro (fits48 (n := 0 + 1) (by omega)) ?_))
    refine And.intro (fun j hj => by
      simp only [List.mem_cons, List.not_mem_nil, or_false] at hj
      rcases hj with rfl
      exact LeX.set _ (List.mem_singleton.2 rfl)) ?_
    refine And.intro (fun j hj => by cases hj) ?_
    conv => whnf
    refine ⟨.tup [], [.box [.t (.int .i64 m), .t (.int .i64 e), .sl 2 0 0 S.length, .sl 3 2 0 1], .box [.t (.int .i64 0)], .arr segE 4 true 0 (.ts S), .arr tlsE 4 true 2 (.ts [segT ⟨v, sz, al, d⟩])], Weak.trans (weak_frz (s' := ⟨[(0, .tup [])], [.box [.t (.int .i64 m), .t (.int .i64 e), .sl 2 0 0 S.length, .sl 3 2 0 1], .box [.t (.int .i64 0)], .arr segE 4 true 0 (.ts S), .arr tlsE 4 true 2 (.ts [segT ⟨v, sz, al, d⟩]), .dead, .dead, .dead, .dead]⟩) [] rfl (fun b blk' hb => ?_) (agree_frz ⟨rfl, trivial⟩)) (weak_gc [0, 1, 2, 3] rfl ⟨rfl, trivial⟩ ⟨rfl, rfl, rfl, rfl, trivial⟩), rfl, rfl⟩
    match b, hb with
    | 0, hb => cases hb; exact .inr ⟨by simp, _, rfl, .same _⟩
    | 1, hb => cases hb; exact .inr ⟨by simp, _, rfl, .same _⟩
    | 2, hb => cases hb; exact .inr ⟨by simp, _, rfl, .same _⟩
    | 3, hb =>
      cases hb
      refine .inr ⟨by simp, _, rfl, frz_lastT _ _ _ _ _ _ _ rfl fun j y y' hy hy' => ?_⟩
      match j, hy, hy' with
      | 0, hy, hy' => cases hy; cases hy'; exact .refl _
      | 1, hy, hy' => cases hy; cases hy'; exact .refl _
      | 2, hy, hy' => cases hy; cases hy'; exact .refl _
      | 3, hy, hy' => cases hy; cases hy'; exact .trans _ _ _ (.of_eq (congrArg (T.vec 1) (show _ = U d from by rw [Int.toNat_natCast, Int.toNat_natCast, hp, Nat.add_sub_cancel_left, ← hd2]; simp [U, List.map_take, List.map_drop]))) (.vec 1 _)
    | 4, hb => cases hb; exact .inl rfl
    | 5, hb => cases hb; exact .inl rfl
    | 6, hb => cases hb; exact .inl rfl
    | 7, hb => cases hb; exact .inl rfl

  · refine br_intro (fun c => ?_) (fun _ => ?_)
    · have : (fz : Int) > 0 := of_decide_eq_true c
      omega
    refine CallS.pure (must_ok rfl) rfl ?_
    refine draw_introX2 (dS3 [0]) ord_34_14 (by decide +kernel) ?_
    refine st_intro (n := ((v : Nat) : Int)) (i64n (by omega)) ?_
    refine st_intro (n := ((sz : Nat) : Int)) (i64n (by omega)) ?_
    refine st_intro (n := ((al : Nat) : Int)) (i64n (by omega)) ?_
    refine Or.inl (And.intro (by simp [Sq.length]) (ck_intro (fits48 (n := 0 + 1) (by omega)) ?_))
    refine And.intro (fun j hj => by
      simp only [List.mem_cons, List.not_mem_nil, or_false] at hj
      rcases hj with rfl
      exact LeX.set _ (List.mem_singleton.2 rfl)) ?_
    refine And.intro (fun j hj => by cases hj) ?_
    conv => whnf
    refine ⟨.tup [], [.box [.t (.int .i64 m), .t (.int .i64 e), .sl 2 0 0 S.length, .sl 3 2 0 1], .box [.t (.int .i64 0)], .arr segE 4 true 0 (.ts S), .arr tlsE 4 true 2 (.ts [segT ⟨v, sz, al, d⟩])], Weak.trans (weak_frz (s' := ⟨[(0, .tup [])], [.box [.t (.int .i64 m), .t (.int .i64 e), .sl 2 0 0 S.length, .sl 3 2 0 1], .box [.t (.int .i64 0)], .arr segE 4 true 0 (.ts S), .arr tlsE 4 true 2 (.ts [segT ⟨v, sz, al, d⟩]), .dead, .dead, .dead, .dead]⟩) [6] rfl (fun b blk' hb => ?_) (agree_frz ⟨rfl, trivial⟩)) (weak_gc [0, 1, 2, 3] rfl ⟨rfl, trivial⟩ ⟨rfl, rfl, rfl, rfl, trivial⟩), rfl, rfl⟩
    match b, hb with
    | 0, hb => cases hb; exact .inr ⟨by simp, _, rfl, .same _⟩
    | 1, hb => cases hb; exact .inr ⟨by simp, _, rfl, .same _⟩
    | 2, hb => cases hb; exact .inr ⟨by simp, _, rfl, .same _⟩
    | 3, hb =>
      cases hb
      refine .inr ⟨by simp, _, rfl, frz_last _ _ _ _ _ _ _ rfl fun j y y' hy hy' => ?_⟩
      match j, hy, hy' with
      | 0, hy, hy' => cases hy; cases hy'; exact .same _
      | 1, hy, hy' => cases hy; cases hy'; exact .same _
      | 2, hy, hy' => cases hy; cases hy'; exact .same _
      | 3, hy, hy' => cases hy; cases hy'; exact .snapD _ (.vecd 1 []) _ [6] 1 rfl (.of_eq (congrArg (T.vecd 1) (show [] = U d from by rw [List.eq_nil_of_length_eq_zero (l := d) (by omega)]; rfl))) (by simp)
    | 4, hb => cases hb; exact .inl rfl
    | 5, hb => cases hb; exact .inl rfl
    | 6, hb => cases hb; exact .inl rfl
    | 7, hb => cases hb; exact .inl rfl

end Go.Proofs.YthpkehhghcpolaaDoor
