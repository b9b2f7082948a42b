/-
  The bits of a form's pattern (walk).
-/
import Derived.Test.YtnjmeadmkbkikaaGreatDoorHi
namespace Go.Proofs.YtnjmeadmkbkikaaGreatDoor
open Go.IntWalk
set_option maxRecDepth 100000
set_option linter.unusedVariables false
set_option linter.unusedSimpArgs false
set_option maxHeartbeats 1000000

def ord_44_16 : Ord := (.op 0 [] (.op 1 [] (.op 2 [1, 0] (.op 3 [1, 0] (.op 4 [1, 0] (.op 5 [] (.op 6 [] (.op 7 [] (.op 8 [] (.op 9 [] (.op 10 [] (.op 11 [] (.op 12 [] (.op 13 [] (.op 14 [] (.op 15 [14, 13] (.op 16 [14, 13] (.op 17 [] (.op 18 [] (.op 19 [] (.op 20 [] (.op 21 [] (.op 22 [21, 20] (.op 23 [21, 20] (.op 24 [21, 20] (.op 25 [24, 23, 22, 21, 20] (.op 26 [24, 23, 22, 21, 20] (.op 27 [26, 25, 24, 23, 22, 21, 20] (.op 28 [26, 25, 24, 23, 22, 21, 20] (.op 29 [24, 23, 22, 21, 20] (.op 30 [24, 23, 22, 21, 20] (.op 31 [24, 23, 22, 21, 20] (.op 32 [21, 20] (.op 33 [21, 20] (.op 34 [21, 20] (.op 35 [] (.op 36 [] .nil)))))))))))))))))))))))))))))))))))))
def ord_44_30 : Ord := (.op 0 [] (.op 1 [0] (.op 2 [] (.op 3 [] (.op 4 [3, 2, 1, 0] (.op 5 [3, 2, 1, 0] (.op 6 [3, 2, 1, 0] (.op 7 [6, 5, 4, 3, 2, 1, 0] (.op 8 [6, 5, 4, 3, 2, 1, 0] (.op 9 [3, 2, 1, 0] (.op 10 [3, 2, 1, 0] (.op 11 [3, 2, 1, 0] (.op 12 [] .nil)))))))))))))

theorem bits_runs (d : DescD) (f : FormD) (hd : d.ok) (hf : f.ok) (hs : sumL f.pieces ≤ 2000000000000) : RunsX Tryz.prog 52 [descT d, formT f] (BitsS d f) := by
  have hA : RunsX Tryz.prog 92 [.vecd 2 (f.args.map argT), .fn (.func 93) [] [ckP d]] (YesS (∀ x ∈ f.args, ArgOK d x)) :=
    all_Arg_01 _ (ckP d) f.args (ArgOK d) (maxLen_le hf.2.2.1) fun x _ => arg_runs d x
  refine RunsX.of_call ?_ BitsS.noRef
  refine CallS.of_fn tabS_ok regS_ok Tryz.func52 rfl rfl ?_
  refine br_intro (fun c1 => ?_) (fun c1 => ?_)
  · exact ⟨_, .inl rfl, [], rfl, rfl, rfl, .refl _⟩
  have c1 : f.args.length ≤ 6 := by have := df c1; rw [List.length_map] at this; omega
  refine CallS.snapX hA rfl ⟨.refl _, .refl _, trivial⟩ YesS.flat ?_
  rintro _ ⟨bA, rfl, pA⟩
  refine br_intro (fun c2 => ?_) (fun c2 => ?_)
  · exact ⟨_, .inl rfl, [], rfl, rfl, rfl, .refl _⟩
  have hargs := pA (by simpa using c2)
  have hmap : (f.args.map argT).length = f.args.length := by simp
  refine ck_intro (mkOK6 (n := (f.args.map argT).length) (z := 64) (by omega) (by omega)) ?_
  refine br_intro (fun c => absurd (of_decide_eq_true c) (by omega)) (fun _ => ?_)
  refine ck_intro (mkOK6 (n := (f.args.map argT).length) (z := 8) (by omega) (by omega)) ?_
  refine br_intro (fun c => absurd (of_decide_eq_true c) (by omega)) (fun _ => ?_)
  have hpm : (f.pieces.map pieceT).length = f.pieces.length := by simp
  have hpl : f.pieces.length ≤ 9223372036854775807 := maxLen_le hf.2.2.2.2.1
  have hnat : (((f.args.map argT).length : Nat) : Int).toNat = f.args.length := by rw [Int.toNat_natCast, hmap]
  have hz1 : List.replicate (((f.args.map argT).length : Nat) : Int).toNat (boolsT (List.replicate 64 false)) = (List.replicate f.args.length (List.replicate 64 false)).map boolsT := by rw [hnat, List.map_replicate]
  have hz2 : List.replicate (((f.args.map argT).length : Nat) : Int).toNat (T.int .i64 0) = (List.replicate f.args.length (0 : Int)).map (T.int .i64) := by rw [hnat, List.map_replicate]
  refine loop_then (fun e s' => (e = .exit 0 ∧ ∃ (i : Nat) (B : List BitD) (S : List (List Bool)) (C : List Int), BInv d f i B S C ∧ i = f.pieces.length ∧ s' = ⟨[(37, .t (.bool (decide ((i : Int) < ((f.pieces.map pieceT).length : Int))))), (2, .ptr 0 0 0 0), (3, .ptr 1 0 0 0), (5, .sl 2 0 0 B.length), (6, .sl 3 0 0 f.args.length), (7, .sl 4 0 0 f.args.length), (34, .t (.vecd 4 (f.pieces.map pieceT))), (35, .t (.int .i64 ((f.pieces.map pieceT).length : Int))), (36, .t (.int .i64 i))], bitsH d f B S C⟩) ∨
    (e = .ret ∧ ∃ env H b, s' = ⟨(4, .sl b 0 0 0) :: env, H⟩ ∧ H[b]? = some (.arr tBit 3 true 0 (.ts [])))) (fun Q' hq => ?_) ?_
  · refine loop_on (fun s : Nat × List BitD × List (List Bool) × List Int => match s with | (i, B, S, C) => BInv d f i B S C) (fun s => ⟨[(2, .ptr 0 0 0 0), (3, .ptr 1 0 0 0), (5, .sl 2 0 0 s.2.1.length), (6, .sl 3 0 0 f.args.length), (7, .sl 4 0 0 f.args.length), (34, .t (.vecd 4 (f.pieces.map pieceT))), (35, .t (.int .i64 ((f.pieces.map pieceT).length : Int))), (36, .t (.int .i64 s.1))], bitsH d f s.2.1 s.2.2.1 s.2.2.2⟩)
      (fun s => f.pieces.length - s.1) (0, [], List.replicate f.args.length (List.replicate 64 false), List.replicate f.args.length 0)
      ⟨Nat.zero_le _, by simp, rfl, seen0, cnt0, List.Pairwise.nil⟩ ?_ (fun ⟨i, B, S, C⟩ hi => ?_)
    · exact weak_gc [0, 1, 3, 4, 5] rfl ⟨rfl, rfl, rfl, congrArg (fun k : Nat => some (AV.sl 3 0 0 k)) hnat, congrArg (fun k : Nat => some (AV.sl 4 0 0 k)) hnat, rfl, rfl, rfl, trivial⟩ ⟨rfl, rfl, rfl, congrArg (fun l => some (Blk.arr tB64 64 false 0 (.ts l))) hz1, congrArg (fun l => some (Blk.arr tI 1 false 0 (.ts l))) hz2, trivial⟩
    have hi : BInv d f i B S C := hi
    obtain ⟨hi, hpo, hB, hS, hC, hD⟩ := hi
    have hBl : B.length ≤ sumL (f.pieces.take i) := by rw [hB]; exact rawB_len hargs hpo
    refine br_intro (fun c => ?_) (fun c => ?_)
    · have c : i < f.pieces.length := by have := dlt c; omega
      obtain ⟨p, hp, hpm2⟩ := get_some (R := f.pieces) (i := i) c
      have hlit : p.lit.length ≤ reachBytes := (hf.2.2.2.2.2.1 p hpm2).1
      have htk : sumL (f.pieces.take (i + 1)) = sumL (f.pieces.take i) + pieceLen p := sumL_succ hp
      have hrw : rawB (f.pieces.take (i + 1)) = B ++ rawP p := by rw [hB]; exact rawB_succ hp
      have hpl64 : pieceLen p = p.lit.length + 64 := rfl
      have hle := sumL_take f.pieces (i + 1)
      refine opt_intro (show (f.pieces.map pieceT)[((i : Nat) : Int).toNat]? = some (pieceT p) from by rw [Int.toNat_natCast, List.getElem?_map, hp]; rfl) ?_
      refine br_intro (fun ca => ?_) (fun ca => ?_)
      · have ca : p.arg = -1 := by simpa using ca
        have hrp : rawP p = p.lit.map litBit := by rw [rawP, if_pos ca]
        refine br_intro (fun _ => ?_) (fun ce => ?_)
        · exact hq _ _ (.inr ⟨rfl, _, _, _, rfl, rfl⟩)
        have ce : p.lit ≠ [] := by intro e; rw [e] at ce; cases ce
        refine CallS.pureX (trim_runs p.lit hlit) rfl ?_
        rintro _ ⟨q, rfl, hql, hqD⟩
        refine br_intro (fun _ => ?_) (fun cq => ?_)
        · exact hq _ _ (.inr ⟨rfl, _, _, _, rfl, rfl⟩)
        have cq : q = [] := by simpa using cq
        have hbits : ∀ x ∈ p.lit, isBit x = true := fun x hx => (hqD x hx).elim (fun h => by rw [cq] at h; cases h) id
        refine loop_on (fun s : Nat × List BitD => s.1 ≤ p.lit.length ∧ s.2 = B ++ (p.lit.take s.1).map litBit) (fun s => ⟨[(9, .ptr 5 0 0 0), (54, .ptr 6 0 0 0), (2, .ptr 0 0 0 0), (3, .ptr 1 0 0 0), (5, .sl 2 0 0 s.2.length), (6, .sl 3 0 0 f.args.length), (7, .sl 4 0 0 f.args.length), (34, .t (.vecd 4 (f.pieces.map pieceT))), (35, .t (.int .i64 ((f.pieces.map pieceT).length : Int))), (36, .t (.int .i64 i))], bitsH d f s.2 S C ++ [.box [.t (.str p.lit), .t (.int .i64 p.arg), .t (.int .i64 p.hi), .t (.int .i64 p.lo)], .iter p.lit s.1]⟩)
          (fun s => p.lit.length - s.1) (0, B) ⟨Nat.zero_le _, by simp⟩ ?_ (fun ⟨j, B2⟩ hj => ?_)
        · exact weak_of ⟨rfl, rfl, rfl, rfl, rfl, rfl, rfl, rfl, rfl, rfl, trivial⟩ rfl
        have hj : j ≤ p.lit.length ∧ B2 = B ++ (p.lit.take j).map litBit := hj
        obtain ⟨hj, hB2e⟩ := hj
        have hB2 : B2.length = B.length + j := by rw [hB2e]; simp; omega
        by_cases hjl : j < p.lit.length
        · obtain ⟨x, hx, hxm⟩ := get_some (R := p.lit) (i := j) hjl
          have hxb := hbits x hxm
          have hx128 : x.toNat < 128 := by unfold isBit at hxb; simp at hxb; omega
          conv => whnf
          have hx' : p.lit[((j, B2) : Nat × List BitD).fst]? = some x := hx
          rw [hx']
          refine ck_intro (show Nat.blt x.toNat 128 = true from by simpa [Nat.blt_eq] using hx128) ?_
          refine opt_intro (show p.lit[((j : Nat) : Int).toNat]? = some x from by rw [Int.toNat_natCast]; exact hx) ?_
          refine Or.inl (And.intro (by simp [Sq.length]) (ck_intro (fits24 (n := B2.length + 1) (by omega)) ?_))
          conv => whnf
          have eR : B2.map bitT ++ [bitT (litBit x)] = (B2 ++ [litBit x]).map bitT := by simp
          have eN : B2.length + 1 = (B2 ++ [litBit x]).length := by simp
          exact ⟨⟨(j + 1, B2 ++ [litBit x]), ⟨hjl, by show B2 ++ [litBit x] = B ++ (p.lit.take (j + 1)).map litBit; rw [hB2e, List.take_add_one, hx]; simp⟩⟩,
            weak_gc [0, 1, 2, 3, 4, 5, 6] rfl ⟨rfl, rfl, rfl, rfl, (show some (AV.sl 2 0 0 (B2.length + 1)) = some (AV.sl 2 0 0 (B2 ++ [litBit x]).length) from by rw [eN]), rfl, rfl, rfl, rfl, rfl, trivial⟩ ⟨rfl, rfl, congrArg (fun l => some (Blk.arr tBit 3 true 0 (.ts l))) eR, rfl, rfl, rfl, rfl, trivial⟩, by show p.lit.length - (j + 1) < p.lit.length - j; omega⟩
        · have hjl : j = p.lit.length := by omega
          conv => whnf
          have hx' : p.lit[((j, B2) : Nat × List BitD).fst]? = none := List.getElem?_eq_none (by show p.lit.length ≤ j; omega)
          rw [hx']
          refine st_intro (n := ((i + 1 : Nat) : Int)) (nat_in (n := i + 1) (by omega)) ?_
          conv => whnf
          exact ⟨⟨(i + 1, B2, S, C), ⟨c, take_all hp hpo (.inl ⟨ca, ce, hbits⟩), by show B2 = rawB (f.pieces.take (i + 1)); rw [hrw, hrp, hB2e, hjl, List.take_length], by rw [hB2e]; exact hS.lit _, by rw [hB2e]; exact hC.lit _, by rw [hB2e]; exact hD.lit _⟩⟩,
            weak_gc [0, 1, 2, 3, 4] rfl ⟨rfl, rfl, rfl, rfl, rfl, rfl, rfl, rfl, trivial⟩ ⟨rfl, rfl, rfl, rfl, rfl, trivial⟩, by show f.pieces.length - (i + 1) < f.pieces.length - i; omega⟩
      · have ca : ¬ p.arg = -1 := by simpa using ca
        refine draw_introS ord_44_16 (by decide +kernel) ?_
        refine CallS.pure (among_runs _ _) rfl ?_
        refine And.intro (fun j hj => by first | (cases hj; done) | exact LeX.append _ _ _ | exact LeX.refl _ _) ?_
        refine br_intro (fun _ => ?_) (fun c3 => ?_)
        · exact hq _ _ (.inr ⟨rfl, _, _, _, rfl, rfl⟩)
        have h3 := am1 (nf c3)
        obtain ⟨g, hg, hgm, hgg⟩ := at_some h3
        obtain ⟨k, hk, hkok⟩ := hargs g hgm
        have hcl : 0 ≤ g.cls ∧ g.cls < d.classes.length := by
          by_cases h : 0 ≤ g.cls ∧ g.cls < d.classes.length
          · exact h
          · rw [at_none h] at hk; cases hk
        obtain ⟨k2, hk2, _, hkg⟩ := at_some hcl
        obtain rfl : k = k2 := by rw [hk] at hk2; cases hk2; rfl
        have hbits : k.bits ≤ 64 := by rcases hkok with h | h | h <;> omega
        refine br_intro (fun _ => ?_) (fun c4 => ?_)
        · exact hq _ _ (.inr ⟨rfl, _, _, _, rfl, rfl⟩)
        have c4 : ¬ p.lo < 0 := by simpa using c4
        refine br_intro (fun _ => ?_) (fun c5 => ?_)
        · exact hq _ _ (.inr ⟨rfl, _, _, _, rfl, rfl⟩)
        have c5 : ¬ p.lo > p.hi := by simpa using c5
        refine ck_intro (ix0 rfl h3.1) ?_
        refine opt_intro (row_get hgg) ?_
        refine ck_intro (ix0 rfl hcl.1) ?_
        refine opt_intro (row_get hkg) ?_
        refine br_intro (fun _ => ?_) (fun c6 => ?_)
        · exact hq _ _ (.inr ⟨rfl, _, _, _, rfl, rfl⟩)
        have c6 : ¬ p.hi ≥ k.bits := by simpa using c6
        have hpok : PieceOK d f p := .inr ⟨ca, g, k, hg, hk, by omega, by omega, by omega⟩
        obtain ⟨T0, hT0⟩ : ∃ T0, T0 = pieceN p := ⟨_, rfl⟩
        have hT1 : T0 = (p.hi - p.lo + 1).toNat := hT0
        have hrp : rawP p = opBits p.arg p.hi T0 := by rw [rawP, if_neg ca, hT0]
        obtain ⟨ai, hai⟩ : ∃ ai : Nat, p.arg = ai := ⟨p.arg.toNat, by omega⟩
        refine loop_on (fun s : Nat × List BitD × List (List Bool) × List Int => match s with | (m, B2, S2, C2) => (m ≤ T0 ∧ B2 = B ++ opBits p.arg p.hi m ∧ SeenOK S2 B2 f.args.length ∧ CntOK C2 B2 f.args.length ∧ Dist B2)) (fun s => ⟨[(9, .ptr 5 0 0 0), (11, .t (.int .i64 (p.hi - s.1))), (2, .ptr 0 0 0 0), (3, .ptr 1 0 0 0), (5, .sl 2 0 0 s.2.1.length), (6, .sl 3 0 0 f.args.length), (7, .sl 4 0 0 f.args.length), (34, .t (.vecd 4 (f.pieces.map pieceT))), (35, .t (.int .i64 ((f.pieces.map pieceT).length : Int))), (36, .t (.int .i64 i))], bitsH d f s.2.1 s.2.2.1 s.2.2.2 ++ [.box [.t (.str p.lit), .t (.int .i64 p.arg), .t (.int .i64 p.hi), .t (.int .i64 p.lo)]]⟩)
          (fun s => T0 - s.1) (0, B, S, C) ⟨Nat.zero_le _, by simp [opBits], hS, hC, hD⟩ ?_ (fun ⟨m, B2, S2, C2⟩ hm => ?_)
        · exact weak_of ⟨rfl, by show AV.t (T.int .i64 p.hi) = AV.t (T.int .i64 (p.hi - ((0 : Nat) : Int))); simp, rfl, rfl, rfl, rfl, rfl, rfl, rfl, rfl, trivial⟩ rfl
        have hm : (m ≤ T0 ∧ B2 = B ++ opBits p.arg p.hi m ∧ SeenOK S2 B2 f.args.length ∧ CntOK C2 B2 f.args.length ∧ Dist B2) := hm
        obtain ⟨hm, hB2e, hS2, hC2, hD2⟩ := hm
        have hB2 : B2.length = B.length + m := by rw [hB2e, List.length_append, opBits_len]
        have hSl := hS2.1
        have hCl := hC2.1
        refine br_intro (fun c7 => ?_) (fun c7 => ?_)
        · have c7 : p.hi - (m : Int) ≥ p.lo := of_decide_eq_true c7
          obtain ⟨o, ho⟩ : ∃ o : Nat, p.hi - (m : Int) = o := ⟨(p.hi - m).toNat, by omega⟩
          obtain ⟨r, hr, hrm⟩ := get_some (R := S2) (i := ai) (by omega)
          have hr64 := (hS2.2 ai r hr).1
          obtain ⟨v, hv, _⟩ := get_some (R := r) (i := o) (by omega)
          refine ck_intro (inB1 rfl h3.1 (by omega)) ?_
          refine ck_intro (inBx (by omega) (by omega)) ?_
          conv => whnf
          refine foN_w (by rfl) ?_
          refine opt_intro (map_getI hai hr) ?_
          refine opt_intro (cell_get ho hv) ?_
          refine br_intro (fun _ => ?_) (fun c8 => ?_)
          · exact hq _ _ (.inr ⟨rfl, _, _, _, rfl, rfl⟩)
          refine ck_intro (inB1 rfl h3.1 (by omega)) ?_
          refine ck_intro (inBx (by omega) (by omega)) ?_
          conv => whnf
          refine foN_w (by rfl) ?_
          show xops _ _ _ _ _ _
          refine xops_in ?_
          refine opt_intro (map_getI hai hr) ?_
          refine ck_intro (show (true && Nat.ble ((0 + (p.hi - (m : Int)).toNat * 1) + 1) (r.map T.bool).length && true) = true from cell_ck ho (by omega)) ?_
          obtain ⟨cv, hcv, _⟩ := get_some (R := C2) (i := ai) (by omega)
          have hcv1 := hC2.2 ai cv hcv
          have hcv2 := cntB_le B2 ai
          refine ck_intro (inB1 rfl h3.1 (by omega)) ?_
          refine opt_intro (map_getI hai hcv) ?_
          refine st_intro (n := cv + 1) (by rw [IntKind.wrap_i64]; omega) ?_
          refine ck_intro (inB1 rfl h3.1 (by omega)) ?_
          show xops _ _ _ _ _ _
          refine xops_in ?_
          refine opt_intro (map_getI hai hcv) ?_
          refine Or.inl (And.intro (by simp [Sq.length]) (ck_intro (fits24 (n := B2.length + 1) (by omega)) ?_))
          refine st_intro (n := p.hi - ((m + 1 : Nat) : Int)) (show IntKind.i64.wrap (p.hi - (m : Int) - 1) = _ from by have := hf.2.2.2.2.2.1 p hpm2; have h1 := this.2.2.1.1; have h2 := this.2.2.1.2; rw [IntKind.wrap_i64]; omega) ?_
          obtain ⟨nb, hnb⟩ : ∃ nb : BitD, nb = ⟨0, p.arg, p.hi - (m : Int)⟩ := ⟨_, rfl⟩
          have hnb1 : nb.arg = (ai : Int) ∧ nb.num = (o : Int) := by rw [hnb]; exact ⟨hai, ho⟩
          have eR : B2.map bitT ++ [.agg [.int .u8 0, .int .i64 p.arg, .int .i64 (p.hi - (m : Int))]] = (B2 ++ [nb]).map bitT := by rw [hnb, List.map_append]; rfl
          have eN : B2.length + 1 = (B2 ++ [nb]).length := by simp
          have eS := set_cell (S := S2) (r := r) hai ho
          have eC := set_num (C := C2) (v := cv + 1) hai
          conv => whnf
          exact ⟨⟨(m + 1, B2 ++ [nb], S2.set ai (r.set o true), C2.set ai (cv + 1)), ⟨by omega, by show B2 ++ [nb] = B ++ opBits p.arg p.hi (m + 1); rw [hB2e, opBits_succ, List.append_assoc, hnb], hS2.op hr (by omega) hnb1, hC2.op hcv hnb1.1, hD2.op hnb1 (by rw [← (hS2.2 ai r hr).2 o v hv]; simpa using c8)⟩⟩,
            weak_gc [0, 1, 2, 3, 4, 5] rfl ⟨rfl, rfl, rfl, rfl, (show some (AV.sl 2 0 0 (B2.length + 1)) = some (AV.sl 2 0 0 (B2 ++ [nb]).length) from by rw [eN]), rfl, rfl, rfl, rfl, rfl, trivial⟩ ⟨rfl, rfl, congrArg (fun l => some (Blk.arr tBit 3 true 0 (.ts l))) eR, congrArg (fun l => some (Blk.arr tB64 64 false 0 (.ts l))) eS, congrArg (fun l => some (Blk.arr tI 1 false 0 (.ts l))) eC, rfl, trivial⟩, by show T0 - (m + 1) < T0 - m; omega⟩
        · have c7 : ¬ p.hi - (m : Int) ≥ p.lo := of_decide_eq_false c7
          refine st_intro (n := ((i + 1 : Nat) : Int)) (nat_in (n := i + 1) (by omega)) ?_
          conv => whnf
          exact ⟨⟨(i + 1, B2, S2, C2), ⟨c, take_all hp hpo hpok, by show B2 = rawB (f.pieces.take (i + 1)); rw [hrw, hrp, hB2e, show m = T0 by omega], hS2, hC2, hD2⟩⟩,
            weak_gc [0, 1, 2, 3, 4] rfl ⟨rfl, rfl, rfl, rfl, rfl, rfl, rfl, rfl, trivial⟩ ⟨rfl, rfl, rfl, rfl, rfl, trivial⟩, by show f.pieces.length - (i + 1) < f.pieces.length - i; omega⟩
    · have c : i = f.pieces.length := by have := dge c; omega
      exact hq _ _ (.inl ⟨rfl, i, B, S, C, ⟨hi, hpo, hB, hS, hC, hD⟩, c, rfl⟩)
  rintro _ _ (⟨rfl, i, B, S, C, ⟨hi, hpo, hB, hS, hC, hD⟩, hie, rfl⟩ | ⟨rfl, env, H, b, rfl, hb⟩)
  · have hCl := hC.1
    refine loop_on (fun j : Nat => j ≤ f.args.length ∧ ∀ i a k, i < j → f.args[i]? = some a → at? d.classes a.cls = some k → (cntB B i : Int) = k.bits) (fun j => ⟨[(2, .ptr 0 0 0 0), (3, .ptr 1 0 0 0), (5, .sl 2 0 0 B.length), (7, .sl 4 0 0 f.args.length), (140, .t (.vecd 2 (f.args.map argT))), (141, .t (.int .i64 ((f.args.map argT).length : Int))), (142, .t (.int .i64 j))], bitsH d f B S C⟩)
      (fun j => f.args.length - j) 0 ⟨Nat.zero_le _, fun i _ _ h => absurd h (Nat.not_lt_zero _)⟩ ?_ (fun j ⟨hj, hjc⟩ => ?_)
    · exact weak_of ⟨rfl, rfl, rfl, rfl, rfl, rfl, rfl, trivial⟩ rfl
    refine br_intro (fun c => ?_) (fun c => ?_)
    · have c : j < f.args.length := by have := dlt c; omega
      obtain ⟨a, ha, ham⟩ := get_some (R := f.args) (i := j) c
      obtain ⟨k, hk, _⟩ := hargs a ham
      have hcl : 0 ≤ a.cls ∧ a.cls < d.classes.length := by
        by_cases h : 0 ≤ a.cls ∧ a.cls < d.classes.length
        · exact h
        · rw [at_none h] at hk; cases hk
      obtain ⟨k2, hk2, _, hkg⟩ := at_some hcl
      obtain rfl : k = k2 := by rw [hk] at hk2; exact Option.some.inj hk2
      obtain ⟨v, hv, _⟩ := get_some (R := C) (i := j) (by omega)
      refine opt_intro (show (f.args.map argT)[((j : Nat) : Int).toNat]? = some (argT a) from by rw [Int.toNat_natCast, List.getElem?_map, ha]; rfl) ?_
      refine draw_introS ord_44_30 (by decide +kernel) ?_
      refine ck_intro (inB0 rfl (by omega)) ?_
      refine opt_intro (map_get0 hv) ?_
      refine ck_intro (ix0 rfl hcl.1) ?_
      refine opt_intro (row_get hkg) ?_
      refine br_intro (fun _ => ?_) (fun cv => ?_)
      · exact ⟨_, .inl rfl, [], rfl, rfl, rfl, .refl _⟩
      have cv : v = k.bits := by simpa using cv
      refine st_intro (n := ((j + 1 : Nat) : Int)) (nat_in (n := j + 1) (by omega)) ?_
      conv => whnf
      exact ⟨⟨j + 1, c, fun i a' k' hij ha' hk' => by
        by_cases e : i = j
        · subst e
          obtain rfl : a = a' := by rw [ha] at ha'; exact Option.some.inj ha'
          obtain rfl : k = k' := by rw [hk] at hk'; exact Option.some.inj hk'
          rw [← cv]; exact (hC.2 i v hv).symm
        · exact hjc i a' k' (by omega) ha' hk'⟩, weak_gc [0, 1, 2, 3, 4] rfl ⟨rfl, rfl, rfl, rfl, rfl, rfl, rfl, trivial⟩ ⟨rfl, rfl, rfl, rfl, rfl, trivial⟩, by show f.args.length - (j + 1) < f.args.length - j; omega⟩
    · obtain ⟨N, hN⟩ : ∃ N, N = B.length := ⟨_, rfl⟩
      obtain ⟨m, hm⟩ : ∃ m, m = B.length % 8 := ⟨_, rfl⟩
      refine ck_intro rfl ?_
      refine st_intro (n := ((m : Nat) : Int)) (show ((B.length : Nat) : Int).tmod 8 = _ from by rw [Int.tmod_eq_emod_of_nonneg (by omega)]; omega) ?_
      refine br_intro (fun _ => ?_) (fun e1 => ?_)
      · exact ⟨_, .inl rfl, [], rfl, rfl, rfl, .refl _⟩
      refine br_intro (fun _ => ?_) (fun e2 => ?_)
      · exact ⟨_, .inl rfl, [], rfl, rfl, rfl, .refl _⟩
      refine br_intro (fun _ => ?_) (fun e3 => ?_)
      · exact ⟨_, .inl rfl, [], rfl, rfl, rfl, .refl _⟩
      have e1 : m = 0 := by have : ((m : Int) != 0) = false := e1
                            simp at this; omega
      have e2 : 8 ≤ B.length := by have := df (show decide ((B.length : Int) < 8) = false from e2); omega
      have e3 : B.length ≤ 120 := by have := df (show decide ((B.length : Int) > 120) = false from e3); omega
      refine CallS.frzX (placed_runs d B (by omega) (by omega)) rfl ⟨.refl _, .of_eq (congrArg (T.vecd 3) (show ((B.map bitT).drop 0).take B.length = B.map bitT by rw [List.drop_zero, List.take_of_length_le (by simp)])), trivial⟩ ?_
      rintro _ ⟨R, rfl, hR⟩
      have hj : j = f.args.length := by have := dge c; omega
      rw [hie, List.take_length] at hpo hB
      rw [hB] at hR e2 e3 hD hjc hm
      exact ⟨_, .inr ⟨R, rfl, ⟨c1, hargs, hpo, hD, fun i a k ha => hjc i a k (by have := (List.getElem?_eq_some_iff.1 ha).1; omega) ha, by omega, e2, e3⟩, hR⟩, R.map bitT, rfl, rfl, rfl, .refl _⟩
  · exact ⟨_, .inl rfl, [], hb, rfl, rfl, .refl _⟩

end Go.Proofs.YtnjmeadmkbkikaaGreatDoor
