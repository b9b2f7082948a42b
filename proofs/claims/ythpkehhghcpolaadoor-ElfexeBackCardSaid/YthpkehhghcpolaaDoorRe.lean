/-
  An executable's file, read (walk): of what elfexe.Write has written, elfexe.Read gives the executable.
-/
import Derived.Test.YthpkehhghcpolaaDoorRb
import Derived.Test.YthpkehhghcpolaaDoorRc
import Derived.Test.YthpkehhghcpolaaDoorRs
import Derived.Test.YthpkehhghcpolaaDoorEy4
namespace Go.Proofs.YthpkehhghcpolaaDoor
open Go.IntWalk
set_option maxRecDepth 100000
set_option linter.unusedVariables false
set_option linter.unusedSimpArgs false
set_option maxHeartbeats 2000000

theorem file_first (x : ExeD) : ∃ r, fileL x = 127 :: 69 :: 76 :: 70 :: 2 :: 1 :: 1 :: 0 :: 0 :: 0 :: 0 :: 0 :: 0 :: 0 :: 0 :: 0 :: 2 :: 0 :: r := ⟨_, rfl⟩

structure FrontAt (x : ExeD) (bs : List UInt8) (n : Nat) : Prop where
  first : ∃ r, bs = 127 :: 69 :: 76 :: 70 :: 2 :: 1 :: 1 :: 0 :: 0 :: 0 :: 0 :: 0 :: 0 :: 0 :: 0 :: 0 :: 2 :: 0 :: r
  len : 64 + 56 * n ≤ bs.length
  g18 : gN bs 18 2 = x.m.toNat
  g24 : gN bs 24 8 = x.e.toNat
  g32 : gN bs 32 8 = 64
  g54 : gN bs 54 2 = 56
  g56 : gN bs 56 2 = n

theorem front_at (x : ExeD) (hb : ExeB x) (hx : SoundP x) (hn : (hdsOf x).length < 65536) : FrontAt x (fileL x) (hdsOf x).length := by
  have e : fileL x = frontB x (hdsOf x).length ++ (hdsB (hdsOf x) (offsOf (atR x) (hdsOf x)) ++ bodyOf (atR x) (hdsOf x)) := by
    show frontB x (hdsOf x).length ++ hdsB (hdsOf x) (offsOf (atR x) (hdsOf x)) ++ bodyOf (atR x) (hdsOf x) = _
    rw [List.append_assoc]
  have m1 := hx.m1
  have e1 := hb.eb
  refine ⟨file_first x, ?_, ?_, ?_, ?_, ?_, ?_⟩
  · rw [fileL_len]; exact end_le _ _
  · rw [e, fr_18, Nat.mod_eq_of_lt (by omega)]
  · rw [e, fr_24, Nat.mod_eq_of_lt (by omega)]
  · rw [e, fr_32]
  · rw [e, fr_54]
  · rw [e, fr_56, Nat.mod_eq_of_lt hn]

theorem seg_eq (s : SegD) (h0 : 0 ≤ s.f) (h1 : 0 ≤ s.v) (h2 : 0 ≤ s.s) : segT ⟨(s.f.toNat : Int), (s.v.toNat : Int), (s.s.toNat : Int), s.d⟩ = segT s := by
  rw [Int.toNat_of_nonneg h0, Int.toNat_of_nonneg h1, Int.toNat_of_nonneg h2]

theorem read_tls' {bs : List UInt8} {a fl o v fz sz al : Nat} {d : List UInt8} (F : HdAt bs a 7 fl o v fz sz al d) (m e : Int) (S R : List T) (hR : R = []) (hS : S.length ≤ 33) :
    CallS Tryd.prog 34 [.ptr 0 0 0 0, .t (.vec 1 (U bs)), .t (.int .u64 a)] [.box [.t (.int .i64 m), .t (.int .i64 e), .sl 2 0 0 S.length, .sl 3 0 0 R.length], .box [.t (.int .i64 0)], .arr segE 4 true 0 (.ts S), .arr tlsE 4 true 0 (.ts R)]
      (fun r H' => r = .tup [] ∧ H' = [.box [.t (.int .i64 m), .t (.int .i64 e), .sl 2 0 0 S.length, .sl 3 2 0 (R.length + 1)], .box [.t (.int .i64 0)], .arr segE 4 true 0 (.ts S), .arr tlsE 4 true 2 (.ts (R ++ [segT ⟨v, sz, al, d⟩]))]) := by
  subst hR
  exact read_tls F m e S hS

def rdS (bs : List UInt8) (m e : Int) (n i : Nat) (S R : List T) : St :=
  ⟨[(0, .t (.vec 1 (U bs))), (2, .ptr 0 0 0 0), (3, .ptr 1 0 0 0), (4, .t (.int .u64 ((64 : Nat) : Int))), (87, .t (.int .u64 ((n : Nat) : Int))), (88, .t (.int .u64 ((i : Nat) : Int)))],
    [.box [.t (.int .i64 m), .t (.int .i64 e), .sl 2 0 0 S.length, .sl 3 0 0 R.length], .box [.t (.int .i64 0)], .arr segE 4 true 0 (.ts S), .arr tlsE 4 true 0 (.ts R)]⟩

def rowS (x : ExeD) (i : Nat) : List T := (x.ss.take i).map segT
def rowR (x : ExeD) (i : Nat) : List T := (x.ts.take (i - x.ss.length)).map segT

def ord_14_24 : Ord := (.op 0 [] (.op 1 [] (.op 2 [1, 0] (.op 3 [2, 1, 0] (.op 4 [2, 1, 0] (.op 5 [4, 3, 2, 1, 0] (.op 6 [2, 1, 0] (.op 7 [2, 1, 0] (.op 8 [2, 1, 0] (.op 9 [2, 1, 0] (.op 10 [] (.op 11 [] (.op 12 [] .nil)))))))))))))
def clS (x : ExeD) : St :=
  ⟨[(2, .ptr 0 0 0 0), (3, .ptr 1 0 0 0), (109, .t (.int .i64 (((x.ss.map segT).length : Nat) : Int)))],
    [.box [.t (.int .i64 x.m), .t (.int .i64 x.e), .sl 2 0 0 (x.ss.map segT).length, .sl 3 0 0 (x.ts.map segT).length], .box [.t (.int .i64 0)], .arr segE 4 true 0 (.ts (x.ss.map segT)), .arr tlsE 4 true 0 (.ts (x.ts.map segT))]⟩

def clT (x : ExeD) : St :=
  ⟨[(2, .ptr 0 0 0 0), (3, .ptr 1 0 0 0), (128, .t (.int .i64 (((x.ts.map segT).length : Nat) : Int)))],
    [.box [.t (.int .i64 x.m), .t (.int .i64 x.e), .sl 2 0 0 (x.ss.map segT).length, .sl 3 0 0 (x.ts.map segT).length], .box [.t (.int .i64 0)], .arr segE 4 true 0 (.ts (x.ss.map segT)), .arr tlsE 4 true 0 (.ts (x.ts.map segT))]⟩

theorem inB_nat {i n : Nat} (h : i < n) : inB ((i : Nat) : Int) n = true := by simp [inB]; omega
theorem segs_get {l : List SegD} {i : Nat} (h : i < l.length) : (l.map segT)[0 + ((i : Nat) : Int).toNat]? = some (segT l[i]) := by rw [Int.toNat_natCast, Nat.zero_add, List.getElem?_map, List.getElem?_eq_getElem h]; rfl

theorem set_same {l : List SegD} {i : Nat} (h : i < l.length) : (l.map segT).set (0 + ((i : Nat) : Int).toNat) (segT l[i]) = l.map segT := by
  rw [Int.toNat_natCast, Nat.zero_add]
  have e : (l.map segT)[i]'(by simpa using h) = segT l[i] := by simp
  rw [← e, List.set_getElem_self]

theorem full_row (l : List SegD) : ((l.map segT).drop 0).take (l.map segT).length = l.map segT := by rw [List.drop_zero, List.take_length]

theorem read_walk (x : ExeD) (hx : SoundP x) (hb : ExeB x) (hm : ¬ manyP x) (bs : List UInt8) (hbs : bs = fileL x) (hl : bs.length ≤ 67108864) :
    CallS Tryd.prog 14 [.t (.vec 1 (U bs))] [] (PackD (.tup [.t (exeT x), .t (.int .i64 0)])) := by
  have h32 : x.ss.length ≤ 32 := Nat.le_of_not_lt fun q => hm (.inl q)
  have ht1 := hx.t
  have hnn := hds_len x
  obtain ⟨n, hn⟩ : ∃ n, n = (hdsOf x).length := ⟨_, rfl⟩
  obtain ⟨⟨r, hr⟩, f1, g18, g24, g32, g54, g56⟩ := front_at x hb hx (by omega)
  rw [← hbs] at hr f1 g18 g24 g32 g54 g56
  rw [← hn] at f1 g56 hnn
  have k32 := enum_runs bs hl (a := 32) (n := 8) (by omega) (by omega)
  have k56 := enum_runs bs hl (a := 56) (n := 2) (by omega) (by omega)
  have k54 := enum_runs bs hl (a := 54) (n := 2) (by omega) (by omega)
  have k24 := enum_runs bs hl (a := 24) (n := 8) (by omega) (by omega)
  have k18 := enum_runs bs hl (a := 18) (n := 2) (by omega) (by omega)
  rw [g32] at k32; rw [g56] at k56; rw [g54] at k54; rw [g24] at k24; rw [g18] at k18
  have hU : (U bs).length = bs.length := U_len _
  have hmany : Runs Tryd.prog 23 [exeT x] (.t (.bool false)) := by
    have h := many_runs' hb hx
    rwa [decide_eq_false hm] at h
  have hsound : Runs Tryd.prog 13 [exeT x] (.t (.bool true)) := by
    have h := sound_runs' hb
    rwa [decide_eq_true hx] at h
  refine CallS.of_fnK (reg := regS) tabS_ok regS_ok Tryd.func14 rfl 4 53 31 [.tmp 2, .tmp 3] Tryd.func31 rfl 3 2 rfl rfl rfl (by kernel_rfl) (by kernel_rfl) (by kernel_rfl) ?_
  refine br_intro (fun c => ?_) (fun _ => ?_)
  · have : (((U bs).length : Nat) : Int) > 67108864 := of_decide_eq_true c
    omega
  refine br_intro (fun c => ?_) (fun _ => ?_)
  · have : (((U bs).length : Nat) : Int) < 64 := of_decide_eq_true c
    omega
  refine ck_intro (by rw [hU]; simp; omega) ?_
  refine ⟨[127, 69, 76, 70], by rw [hr]; rfl, ?_⟩
  refine opt_intro (show (U bs)[(4 : Int).toNat]? = some (.int .u8 2) from by rw [hr]; rfl) ?_
  refine opt_intro (show (U bs)[(5 : Int).toNat]? = some (.int .u8 1) from by rw [hr]; rfl) ?_
  refine opt_intro (show (U bs)[(6 : Int).toNat]? = some (.int .u8 1) from by rw [hr]; rfl) ?_
  refine opt_intro (show (U bs)[(16 : Int).toNat]? = some (.int .u8 2) from by rw [hr]; rfl) ?_
  refine opt_intro (show (U bs)[(17 : Int).toNat]? = some (.int .u8 0) from by rw [hr]; rfl) ?_
  refine CallS.pure k32 rfl ?_
  refine CallS.pure k56 rfl ?_
  refine CallS.pure k54 rfl ?_
  obtain ⟨N, hN⟩ : ∃ N, N = bs.length := ⟨_, rfl⟩
  refine st_intro (n := ((N : Nat) : Int)) (show IntKind.u64.wrap (((U bs).length : Nat) : Int) = _ from by rw [hU, IntKind.wrap_u64]; omega) ?_
  refine br_intro (fun _ => ?_) (fun c => ?_)
  rotate_left 1
  · have : ¬ ((64 : Nat) : Int) ≤ (N : Int) := of_decide_eq_false c
    omega
  obtain ⟨q, hq⟩ : ∃ q, q = 56 * n := ⟨_, rfl⟩
  refine st_intro (n := ((q : Nat) : Int)) (show IntKind.u64.wrap (56 * (n : Int)) = _ from by rw [IntKind.wrap_u64]; omega) ?_
  refine st_intro (n := ((N : Nat) : Int)) (show IntKind.u64.wrap (((U bs).length : Nat) : Int) = _ from by rw [hU, IntKind.wrap_u64]; omega) ?_
  obtain ⟨p, hp⟩ : ∃ p, p = N - 64 := ⟨_, rfl⟩
  refine st_intro (n := ((p : Nat) : Int)) (show IntKind.u64.wrap ((N : Int) - ((64 : Nat) : Int)) = _ from by rw [IntKind.wrap_u64]; omega) ?_
  refine CallS.pure (must_ok (decide_eq_true (by omega))) rfl ?_
  refine CallS.pure k24 rfl ?_
  refine CallS.pure k18 rfl ?_
  refine st_intro (n := x.m) (show IntKind.i64.wrap ((x.m.toNat : Nat) : Int) = _ from by rw [IntKind.wrap_i64]; have := hx.m0; have := hx.m1; omega) ?_
  refine st_intro (n := x.e) (show IntKind.i64.wrap ((x.e.toNat : Nat) : Int) = _ from by rw [IntKind.wrap_i64]; have := hx.e; have := hb.eb; omega) ?_
  refine loop_then (fun e s' => e = .exit 0 ∧ ∃ b : Bool, s' = ⟨(89, .t (.bool b)) :: (rdS bs x.m x.e n n (x.ss.map segT) (x.ts.map segT)).env, (rdS bs x.m x.e n n (x.ss.map segT) (x.ts.map segT)).H⟩) (fun Q' hq => ?_) ?_
  · refine loop_on (fun i : Nat => i ≤ n) (fun i => rdS bs x.m x.e n i (rowS x i) (rowR x i)) (fun i => n - i) 0 (Nat.zero_le _) ?_ (fun i hi => ?_)
    · show Weak _ _ (rdS bs x.m x.e n 0 (rowS x 0) (rowR x 0))
      rw [show rowS x 0 = [] from rfl, show rowR x 0 = [] from by simp [rowR]]
      refine Weak.trans (weak_of (s' := ⟨[(0, .t (.vec 1 (U bs))), (2, .ptr 0 0 0 0), (3, .ptr 1 0 0 0), (4, .t (.int .u64 ((64 : Nat) : Int))), (87, .t (.int .u64 ((n : Nat) : Int))), (88, .t (.int .u64 ((0 : Nat) : Int)))],
        [.box [.t (.int .i64 x.m), .t (.int .i64 x.e), .t .nils, .t .nils], .box [.t (.int .i64 0)]]⟩) ⟨rfl, rfl, rfl, rfl, rfl, rfl, trivial⟩ rfl) ?_
      refine Weak.trans (weak_row (.arr segE 4 true 0 (.ts []))) ?_
      refine Weak.trans (weak_row (.arr tlsE 4 true 0 (.ts []))) ?_
      refine weak_frz [] rfl (fun b blk' hb => .inr ⟨by simp, ?_⟩) (agree_frz ⟨rfl, rfl, rfl, rfl, rfl, rfl, trivial⟩)
      match b, hb with
      | 0, hb =>
        cases hb
        refine ⟨_, rfl, .box _ _ rfl fun j x x' hx hx' => ?_⟩
        match j, hx, hx' with
        | 0, hx, hx' => cases hx; cases hx'; exact .same _
        | 1, hx, hx' => cases hx; cases hx'; exact .same _
        | 2, hx, hx' => cases hx; cases hx'; exact .nil 2 _ _ rfl
        | 3, hx, hx' => cases hx; cases hx'; exact .nil 3 _ _ rfl
        | j + 4, hx, hx' => cases hx
      | 1, hb => cases hb; exact ⟨_, rfl, .same _⟩
      | 2, hb => cases hb; exact ⟨_, rfl, .same _⟩
      | 3, hb => cases hb; exact ⟨_, rfl, .same _⟩
      | b + 4, hb => cases hb
    · refine br_intro (fun c => ?_) (fun c => ?_)
      · have c : i < n := by have : (i : Int) < (n : Int) := of_decide_eq_true c; omega
        obtain ⟨z, hz⟩ : ∃ z, z = 56 * i := ⟨_, rfl⟩
        refine st_intro (n := ((z : Nat) : Int)) (show IntKind.u64.wrap (56 * (i : Int)) = _ from by rw [IntKind.wrap_u64]; omega) ?_
        obtain ⟨a, ha⟩ : ∃ a, a = 64 + 56 * i := ⟨_, rfl⟩
        refine st_intro (n := ((a : Nat) : Int)) (show IntKind.u64.wrap (((64 : Nat) : Int) + (z : Int)) = _ from by rw [IntKind.wrap_u64]; omega) ?_
        obtain ⟨j, hj⟩ : ∃ j, j = i + 1 := ⟨_, rfl⟩
        by_cases hs : i < x.ss.length
        · obtain ⟨o, F, hmod⟩ := seg_at x hx (by rw [← hbs]; exact hl) i hs
          have ok := hx.ss i hs
          rw [← hbs, ← ha] at F
          have e1 : rowS x j = rowS x i ++ [segT ⟨(x.ss[i].f.toNat : Int), (x.ss[i].v.toNat : Int), (x.ss[i].s.toNat : Int), x.ss[i].d⟩] := by
            have hv := ok.v
            rw [seg_eq _ ok.f0 (by simp [addrB] at hv; omega) (by have := ok.s1; omega), hj]
            show (x.ss.take (i + 1)).map segT = _
            rw [take_snoc (List.getElem?_eq_getElem hs), List.map_append]; rfl
          have e2 : rowR x j = rowR x i := by
            show (x.ts.take (j - x.ss.length)).map segT = (x.ts.take (i - x.ss.length)).map segT
            rw [show j - x.ss.length = i - x.ss.length by omega]
          refine CallS.mono (read_seg F hmod (by have := ok.s1; omega) x.m x.e (rowS x i) (rowR x i) (by simp [rowS]; omega)) ?_
          rintro _ _ ⟨rfl, rfl⟩
          refine st_intro (n := ((j : Nat) : Int)) (show IntKind.u64.wrap ((i : Int) + 1) = _ from by rw [IntKind.wrap_u64]; omega) ?_
          refine ⟨⟨j, by omega⟩, ?_, by show n - j < n - i; omega⟩
          show Weak _ _ (rdS bs x.m x.e n j (rowS x j) (rowR x j))
          rw [e1, e2]
          exact weak_gc [0, 1, 2, 3] rfl ⟨rfl, rfl, rfl, rfl, rfl, rfl, trivial⟩ ⟨congrArg (fun k => some (Blk.box [.t (.int .i64 x.m), .t (.int .i64 x.e), .sl 2 0 0 k, .sl 3 0 0 (rowR x i).length])) (by simp), rfl, rfl, rfl, trivial⟩
        · have hts : 0 < x.ts.length := by omega
          have hi2 : i = x.ss.length := by omega
          obtain ⟨o, F⟩ := tls_at x hx (by rw [← hbs]; exact hl) hts
          have ok := hx.ts 0 hts
          rw [← hbs, show 64 + 56 * x.ss.length = a by omega] at F
          have e1 : rowS x j = rowS x i := by
            show (x.ss.take j).map segT = (x.ss.take i).map segT
            rw [List.take_of_length_le (by omega), List.take_of_length_le (by omega)]
          have e0 : rowR x i = [] := by
            show (x.ts.take (i - x.ss.length)).map segT = _
            rw [hi2, Nat.sub_self]; rfl
          have e2 : rowR x j = rowR x i ++ [segT ⟨(x.ts[0].f.toNat : Int), (x.ts[0].v.toNat : Int), (x.ts[0].s.toNat : Int), x.ts[0].d⟩] := by
            have hv := ok.f
            rw [seg_eq _ (by simp [addrB] at hv; omega) ok.v0 (by have := ok.s1; omega), e0]
            show (x.ts.take (j - x.ss.length)).map segT = _
            rw [show j - x.ss.length = 0 + 1 by omega, take_snoc (List.getElem?_eq_getElem hts)]; rfl
          refine CallS.mono (read_tls' F x.m x.e (rowS x i) (rowR x i) e0 (by simp [rowS]; omega)) ?_
          rintro _ _ ⟨rfl, rfl⟩
          refine st_intro (n := ((j : Nat) : Int)) (show IntKind.u64.wrap ((i : Int) + 1) = _ from by rw [IntKind.wrap_u64]; omega) ?_
          refine ⟨⟨j, by omega⟩, ?_, by show n - j < n - i; omega⟩
          show Weak _ _ (rdS bs x.m x.e n j (rowS x j) (rowR x j))
          rw [e1, e2]
          exact weak_gc [0, 1, 2, 3] rfl ⟨rfl, rfl, rfl, rfl, rfl, rfl, trivial⟩ ⟨congrArg (fun k => some (Blk.box [.t (.int .i64 x.m), .t (.int .i64 x.e), .sl 2 0 0 (rowS x i).length, .sl 3 0 0 k])) (by simp), rfl, rfl, rfl, trivial⟩
      · have c : ¬ (i : Int) < (n : Int) := of_decide_eq_false c
        obtain rfl : i = n := by omega
        have e1 : rowS x i = x.ss.map segT := by
          show (x.ss.take i).map segT = _
          rw [List.take_of_length_le (by omega)]
        have e2 : rowR x i = x.ts.map segT := by
          show (x.ts.take (i - x.ss.length)).map segT = _
          rw [List.take_of_length_le (by omega)]
        exact hq _ _ ⟨rfl, _, by rw [← e1, ← e2]; rfl⟩
  · rintro _ _ ⟨rfl, b, rfl⟩
    refine CallS.snapG (sort_ro x.ss (rises x hx) (by omega)) rfl ⟨.of_eq (congrArg (T.vecd 4) (full_row x.ss)), .refl _, trivial⟩ trivial ?_
    refine CallS.snapG hmany rfl ⟨.aggS ⟨.refl _, .refl _, .of_eq (congrArg (T.vecd 4) (full_row x.ss)), .of_eq (congrArg (T.vecd 4) (full_row x.ts)), trivial⟩, trivial⟩ rfl ?_
    refine CallS.snapG hsound rfl ⟨.aggS ⟨.refl _, .refl _, .of_eq (congrArg (T.vecd 4) (full_row x.ss)), .of_eq (congrArg (T.vecd 4) (full_row x.ts)), trivial⟩, trivial⟩ rfl ?_
    refine CallS.pure must_runs rfl ?_
    refine loop_then (fun e s' => e = .exit 2 ∧ ∃ b : Bool, ∃ k : Int, s' = ⟨(111, .t (.bool b)) :: (110, .t (.int .i64 k)) :: (clS x).env, (clS x).H⟩) (fun Q' hq => ?_) ?_
    · refine loop_on (fun i : Nat => i ≤ x.ss.length) (fun i => ⟨(110, .t (.int .i64 ((i : Nat) : Int))) :: (clS x).env, (clS x).H⟩) (fun i => x.ss.length - i) 0 (Nat.zero_le _) ?_ (fun i hi => ?_)
      · exact weak_of ⟨rfl, rfl, rfl, rfl, trivial⟩ rfl
      · refine br_intro (fun c => ?_) (fun c => ?_)
        · have c : i < (x.ss.map segT).length := by have : (i : Int) < (((x.ss.map segT).length : Nat) : Int) := of_decide_eq_true c; omega
          have hs : i < x.ss.length := by simpa using c
          refine draw_introXS (fun _ => []) ord_14_24 (by decide +kernel) ?_
          refine ck_intro (inB_nat c) ?_
          refine opt_intro (segs_get hs) ?_
          refine CallS.pureX (cloneN_runs x.ss[i].d (by have := (hx.ss i hs).s2; have := (hx.ss i hs).d; omega)) rfl ?_
          rintro _ rfl
          refine And.intro (fun j hj => by first | (cases hj; done) | exact LeX.append _ _ _ | exact LeX.refl _ _) ?_
          refine ck_intro (inB_nat c) ?_
          refine opt_intro (segs_get hs) ?_
          refine And.intro (fun j hj => by cases hj) ?_
          obtain ⟨j, hj⟩ : ∃ j, j = i + 1 := ⟨_, rfl⟩
          refine st_intro (n := ((j : Nat) : Int)) (show IntKind.i64.wrap ((i : Int) + 1) = _ from by rw [IntKind.wrap_i64]; omega) ?_
          refine ⟨⟨j, by omega⟩, ?_, by show x.ss.length - j < x.ss.length - i; omega⟩
          show Weak _ _ ⟨(110, .t (.int .i64 ((j : Nat) : Int))) :: (clS x).env, (clS x).H⟩
          exact weak_gc [0, 1, 2, 3] rfl ⟨rfl, rfl, rfl, rfl, trivial⟩ ⟨rfl, rfl, congrArg (fun l => some (Blk.arr segE 4 true 0 (.ts l))) (set_same hs), rfl, trivial⟩
        · exact hq _ _ ⟨rfl, _, _, rfl⟩
    · rintro _ _ ⟨rfl, b, k, rfl⟩
      refine loop_then (fun e s' => e = .exit 4 ∧ ∃ b : Bool, ∃ k : Int, s' = ⟨(130, .t (.bool b)) :: (129, .t (.int .i64 k)) :: (clT x).env, (clT x).H⟩) (fun Q' hq => ?_) ?_
      · refine loop_on (fun i : Nat => i ≤ x.ts.length) (fun i => ⟨(129, .t (.int .i64 ((i : Nat) : Int))) :: (clT x).env, (clT x).H⟩) (fun i => x.ts.length - i) 0 (Nat.zero_le _) ?_ (fun i hi => ?_)
        · exact weak_of ⟨rfl, rfl, rfl, rfl, trivial⟩ rfl
        · refine br_intro (fun c => ?_) (fun c => ?_)
          · have c : i < (x.ts.map segT).length := by have : (i : Int) < (((x.ts.map segT).length : Nat) : Int) := of_decide_eq_true c; omega
            have hs : i < x.ts.length := by simpa using c
            refine draw_introXS (fun _ => []) ord_14_24 (by decide +kernel) ?_
            refine ck_intro (inB_nat c) ?_
            refine opt_intro (segs_get hs) ?_
            refine CallS.pureX (cloneN_runs x.ts[i].d (by have := (hx.ts i hs).v1; have := (hx.ts i hs).d; omega)) rfl ?_
            rintro _ rfl
            refine And.intro (fun j hj => by first | (cases hj; done) | exact LeX.append _ _ _ | exact LeX.refl _ _) ?_
            refine ck_intro (inB_nat c) ?_
            refine opt_intro (segs_get hs) ?_
            refine And.intro (fun j hj => by cases hj) ?_
            obtain ⟨j, hj⟩ : ∃ j, j = i + 1 := ⟨_, rfl⟩
            refine st_intro (n := ((j : Nat) : Int)) (show IntKind.i64.wrap ((i : Int) + 1) = _ from by rw [IntKind.wrap_i64]; omega) ?_
            refine ⟨⟨j, by omega⟩, ?_, by show x.ts.length - j < x.ts.length - i; omega⟩
            show Weak _ _ ⟨(129, .t (.int .i64 ((j : Nat) : Int))) :: (clT x).env, (clT x).H⟩
            exact weak_gc [0, 1, 2, 3] rfl ⟨rfl, rfl, rfl, rfl, trivial⟩ ⟨rfl, rfl, rfl, congrArg (fun l => some (Blk.arr tlsE 4 true 0 (.ts l))) (set_same hs), trivial⟩
          · exact hq _ _ ⟨rfl, _, _, rfl⟩
      · rintro _ _ ⟨rfl, b, k, rfl⟩
        exact And.intro ⟨⟨_, _, rfl, .aggS ⟨.refl _, .refl _, .of_eq (congrArg (T.vecd 4) (full_row x.ss)), .of_eq (congrArg (T.vecd 4) (full_row x.ts)), trivial⟩⟩, ⟨_, _, rfl, .refl _⟩, trivial⟩ rfl

theorem read_good (x : ExeD) (hx : SoundP x) (hb : ExeB x) (hm : ¬ manyP x) (hl : (fileL x).length ≤ 67108864) :
    Runs Tryd.prog 14 [.vec 1 (U (fileL x))] (.tup [.t (exeT x), .t (.int .i64 0)]) :=
  Runs.of_callD (read_walk x hx hb hm _ rfl hl) rfl

end Go.Proofs.YthpkehhghcpolaaDoor
