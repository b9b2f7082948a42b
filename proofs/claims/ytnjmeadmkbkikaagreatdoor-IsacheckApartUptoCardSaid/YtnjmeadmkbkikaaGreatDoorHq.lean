/-
  The document's function for a pattern as it is written (walk).
-/
import Derived.Test.YtnjmeadmkbkikaaGreatDoorHp
namespace Go.Proofs.YtnjmeadmkbkikaaGreatDoor
open Go.IntWalk
set_option maxRecDepth 100000
set_option linter.unusedVariables false
set_option linter.unusedSimpArgs false
set_option maxHeartbeats 1000000

def ord_78_7 : Ord := (.op 0 [] (.op 1 [] (.op 2 [1, 0] (.op 3 [1, 0] (.op 4 [1, 0] (.op 5 [] (.op 6 [] (.op 7 [] (.op 8 [] (.op 9 [8] (.op 10 [8] (.op 11 [10, 9, 8] (.op 12 [10, 9, 8] (.op 13 [8] (.op 14 [8] (.op 15 [] (.op 16 [] (.op 17 [] .nil))))))))))))))))))
def ord_78_22 : Ord := (.op 0 [] (.op 1 [] (.op 2 [1, 0] (.op 3 [1, 0] (.op 4 [1, 0] (.op 5 [] (.op 6 [] (.op 7 [] (.op 8 [] (.op 9 [] (.op 10 [] (.op 11 [] (.op 12 [] (.op 13 [] (.op 14 [] (.op 15 [14, 13] (.op 16 [14, 13] (.op 17 [] (.op 18 [] (.op 19 [] (.op 20 [] (.op 21 [] (.op 22 [21, 20] (.op 23 [21, 20] (.op 24 [23, 22, 21, 20] (.op 25 [23, 22, 21, 20] (.op 26 [25, 24, 23, 22, 21, 20] (.op 27 [25, 24, 23, 22, 21, 20] (.op 28 [23, 22, 21, 20] (.op 29 [23, 22, 21, 20] (.op 30 [23, 22, 21, 20] (.op 31 [21, 20] (.op 32 [21, 20] (.op 33 [21, 20] (.op 34 [] (.op 35 [] .nil))))))))))))))))))))))))))))))))))))
def ord_78_34 : Ord := (.op 0 [] (.op 1 [] (.op 2 [1, 0] (.op 3 [1, 0] (.op 4 [3, 2] (.op 5 [] (.op 6 [] (.op 7 [] (.op 8 [7, 6, 5, 4, 3, 2] (.op 9 [] (.op 10 [] .nil)))))))))))

abbrev tRB : Nat := 88
def WrS (f : FormD) (r : AV) : Prop := r = .tup [.own tRB 3 true [], .t (.bool false)] ∨ ∃ b : Bool, r = .tup [.own tRB 3 false ((rawB f.pieces).map bitT), .t (.bool b)]
theorem WrS.noRef {f : FormD} : ∀ r, WrS f r → noRef r = true := by rintro r (rfl | ⟨_, rfl⟩) <;> rfl
theorem nil_end {f : FormD} {H : AH} {b : Nat} (hb : H[b]? = some (.arr tRB 3 true 0 (.ts []))) : ∃ r, WrS f r ∧ PackD r (.tup [.sl b 0 0 0, .t (.bool false)]) H :=
  ⟨_, .inl rfl, ⟨⟨[], hb, rfl, rfl, .refl _⟩, ⟨_, _, rfl, .refl _⟩, trivial⟩, rfl⟩

abbrev tCnt : Nat := 191
def cntT (cs : List Int) : T := .agg (cs.map (T.int .i64))
theorem cnt_get {cs : List Int} {a n : Int} {i m : Nat} (hc : cs.length = 384) (ha : a = (i : Int)) (hn : n = (m : Int)) (hi : i < 6) (hm : m < 64) : ∃ v, (cs.map (T.int .i64))[0 + a.toNat * 64 + n.toNat * 1]? = some (T.int .i64 v) ∧ 0 + a.toNat * 64 + n.toNat * 1 < cs.length := by
  have hl : i * 64 + m < cs.length := by omega
  refine ⟨cs[i * 64 + m], ?_, by omega⟩
  have e : 0 + a.toNat * 64 + n.toNat * 1 = i * 64 + m := by omega
  rw [e, List.getElem?_map, List.getElem?_eq_getElem hl]; rfl
theorem cnt_ck {cs : List Int} {o : Nat} (h : o < cs.length) : (true && Nat.ble (o + 1) (cs.map (T.int .i64)).length && true) = true := by
  have : Nat.ble (o + 1) (cs.map (T.int .i64)).length = true := by rw [Nat.ble_eq, List.length_map]; omega
  rw [this]; rfl
theorem cnt_set {cs : List Int} {o : Nat} {v : Int} : setCells (cntT cs) o [T.int .i64 v] = cntT (cs.set o v) := by
  show T.agg ((cs.map (T.int .i64)).set o (T.int .i64 v)) = _
  rw [← List.map_set]; rfl

theorem written_runs (d : DescD) (f : FormD) (hd : d.ok) (hf : f.ok) (hG : GoodF d f) : RunsX Tryz.prog 78 [descT d, formT f] (WrS f) := by
  have hmF : (f.args.map argT).length = f.args.length := by simp
  have hmP : (f.pieces.map pieceT).length = f.pieces.length := by simp
  have ha6 := hG.args
  have hpl : f.pieces.length ≤ 9223372036854775807 := maxLen_le hf.2.2.2.2.1
  refine RunsX.of_call ?_ WrS.noRef
  refine CallS.of_fn tabS_ok regS_ok Tryz.func78 rfl rfl ?_
  refine br_intro (fun c => ?_) (fun _ => ?_)
  · exact nil_end rfl
  refine loop_then (fun e s' => (e = .exit 0 ∧ ∃ i : Nat, s' = ⟨[(28, .t (.bool (decide ((i : Int) < ((f.args.map argT).length : Int))))), (2, .ptr 0 0 0 0), (3, .ptr 1 0 0 0), (6, .sl 2 0 0 0), (25, .t (.vecd 2 (f.args.map argT))), (26, .t (.int .i64 ((f.args.map argT).length : Int))), (27, .t (.int .i64 i))], [.box (descC d), .box (formC f), .arr tRB 3 false 0 (.ts (([] : List BitD).map bitT))]⟩) ∨
    (e = .ret ∧ ∃ env H b, s' = ⟨(5, .t (.bool false)) :: (4, .sl b 0 0 0) :: env, H⟩ ∧ H[b]? = some (.arr tRB 3 true 0 (.ts [])))) (fun HQ' HQ => ?_) ?_
  · refine loop_on (fun i : Nat => i ≤ f.args.length) (fun i => ⟨[(2, .ptr 0 0 0 0), (3, .ptr 1 0 0 0), (6, .sl 2 0 0 0), (25, .t (.vecd 2 (f.args.map argT))), (26, .t (.int .i64 ((f.args.map argT).length : Int))), (27, .t (.int .i64 i))], [.box (descC d), .box (formC f), .arr tRB 3 false 0 (.ts (([] : List BitD).map bitT))]⟩)
      (fun i => f.args.length - i) 0 (Nat.zero_le _) ?_ (fun i hi => ?_)
    · exact weak_gc [0, 1, 3] rfl ⟨rfl, rfl, rfl, rfl, rfl, rfl, trivial⟩ ⟨rfl, rfl, rfl, trivial⟩
    refine br_intro (fun c => ?_) (fun c => ?_)
    · have c : i < f.args.length := by have := dlt c; omega
      obtain ⟨a, ha, ham⟩ := get_some (R := f.args) (i := i) c
      obtain ⟨k, hk, hok⟩ := hG.aok a ham
      have hcl := at_lt hk
      obtain ⟨k2, hk2, _, hkg⟩ := at_some hcl
      obtain rfl : k = k2 := by rw [hk] at hk2; exact Option.some.inj hk2
      refine opt_intro (show (f.args.map argT)[((i : Nat) : Int).toNat]? = some (argT a) from by rw [Int.toNat_natCast, List.getElem?_map, ha]; rfl) ?_
      refine draw_introS ord_78_7 (by decide +kernel) ?_
      refine CallS.pure (place_runs _ _) rfl ?_
      refine And.intro (fun j hj => by first | (cases hj; done) | exact LeX.append _ _ _ | exact LeX.refl _ _) ?_
      refine br_intro (fun c2 => ?_) (fun c2 => ?_)
      · refine And.intro (fun j hj => by first | (cases hj; done) | exact LeX.append _ _ _ | exact LeX.refl _ _) ?_
        exact HQ _ _ (.inr ⟨rfl, _, _, _, rfl, rfl⟩)
      refine ck_intro (ix0 rfl hcl.1) ?_
      refine opt_intro (row_get hkg) ?_
      refine CallS.frzG (class_runs_r d k hok) rfl ⟨.refl _, .refl _, trivial⟩ ?_
      refine And.intro (fun j hj => by first | (cases hj; done) | exact LeX.append _ _ _ | exact LeX.refl _ _) ?_
      refine st_intro (n := ((i + 1 : Nat) : Int)) (nat_in (n := i + 1) (by omega)) ?_
      conv => whnf
      exact ⟨⟨i + 1, c⟩, weak_gc [0, 1, 2] rfl ⟨rfl, rfl, rfl, rfl, rfl, rfl, trivial⟩ ⟨rfl, rfl, rfl, trivial⟩, by show f.args.length - (i + 1) < f.args.length - i; omega⟩
    · exact HQ _ _ (.inl ⟨rfl, i, rfl⟩)
  rintro _ _ (⟨rfl, i0, rfl⟩ | ⟨rfl, env, H, b, rfl, hb⟩)
  rotate_left 1
  · exact nil_end hb
  refine loop_then (fun e s' => (e = .exit 2 ∧ ∃ i : Nat, s' = ⟨[(54, .t (.bool (decide ((i : Int) < ((f.pieces.map pieceT).length : Int))))), (2, .ptr 0 0 0 0), (3, .ptr 1 0 0 0), (6, .sl 2 0 0 (rawB f.pieces).length), (51, .t (.vecd 4 (f.pieces.map pieceT))), (52, .t (.int .i64 ((f.pieces.map pieceT).length : Int))), (53, .t (.int .i64 i))], [.box (descC d), .box (formC f), .arr tRB 3 false 0 (.ts ((rawB f.pieces).map bitT))]⟩) ∨
    (e = .ret ∧ ∃ env H b, s' = ⟨(5, .t (.bool false)) :: (4, .sl b 0 0 0) :: env, H⟩ ∧ H[b]? = some (.arr tRB 3 true 0 (.ts [])))) (fun HQ' HQ => ?_) ?_
  · refine loop_on (fun s : Nat × List BitD => s.1 ≤ f.pieces.length ∧ s.2 = rawB (f.pieces.take s.1)) (fun s => ⟨[(2, .ptr 0 0 0 0), (3, .ptr 1 0 0 0), (6, .sl 2 0 0 s.2.length), (51, .t (.vecd 4 (f.pieces.map pieceT))), (52, .t (.int .i64 ((f.pieces.map pieceT).length : Int))), (53, .t (.int .i64 s.1))], [.box (descC d), .box (formC f), .arr tRB 3 false 0 (.ts (s.2.map bitT))]⟩)
      (fun s => f.pieces.length - s.1) (0, []) ⟨Nat.zero_le _, rfl⟩ ?_ (fun ⟨i, B⟩ ⟨hi, hB⟩ => ?_)
    · exact weak_of ⟨rfl, rfl, rfl, rfl, rfl, rfl, trivial⟩ rfl
    have hi : i ≤ f.pieces.length := hi
    have hB : B = rawB (f.pieces.take i) := hB
    refine br_intro (fun c => ?_) (fun c => ?_)
    · have c : i < f.pieces.length := by have := dlt c; omega
      obtain ⟨p, hp, hpm⟩ := get_some (R := f.pieces) (i := i) c
      have hrw : rawB (f.pieces.take (i + 1)) = B ++ rawP p := by rw [hB]; exact rawB_succ hp
      have hle : B.length + (rawP p).length ≤ 120 := by
        have e : rawB f.pieces = rawB (f.pieces.take (i + 1)) ++ rawB (f.pieces.drop (i + 1)) := by rw [← rawB_app, List.take_append_drop]
        have := hG.le
        rw [e, hrw, List.length_append, List.length_append] at this
        omega
      have hnew : (fun s : Nat × List BitD => s.1 ≤ f.pieces.length ∧ s.2 = rawB (f.pieces.take s.1)) (i + 1, B ++ rawP p) := ⟨c, hrw.symm⟩
      refine opt_intro (show (f.pieces.map pieceT)[((i : Nat) : Int).toNat]? = some (pieceT p) from by rw [Int.toNat_natCast, List.getElem?_map, hp]; rfl) ?_
      rcases hG.pok p hpm with ⟨ca, ce, hbits⟩ | ⟨ca, g, k, hg, hk, h1, h2, h3⟩
      · have hrp : rawP p = p.lit.map litBit := by rw [rawP, if_pos ca]
        have hpn : (rawP p).length = p.lit.length := by rw [hrp, List.length_map]
        refine br_intro (fun _ => ?_) (fun c => absurd ca (by simpa using c))
        refine br_intro (fun _ => ?_) (fun _ => ?_)
        · exact HQ _ _ (.inr ⟨rfl, _, _, _, rfl, rfl⟩)
        refine loop_then (fun e s' => (e = .exit 4 ∧ ∃ (b0 b1 b2 b3 b4 : AV) (j : Nat), s' = ⟨[(67, b0), (66, b1), (65, b2), (64, b3), (63, b4), (2, .ptr 0 0 0 0), (3, .ptr 1 0 0 0), (10, .ptr 3 0 0 0), (51, .t (.vecd 4 (f.pieces.map pieceT))), (52, .t (.int .i64 ((f.pieces.map pieceT).length : Int))), (53, .t (.int .i64 i)), (6, .sl 2 0 0 (B ++ rawP p).length), (11, .t (.int .i64 j))], [.box (descC d), .box (formC f), .arr tRB 3 false 0 (.ts ((B ++ rawP p).map bitT))] ++ [.box [.t (.str p.lit), .t (.int .i64 p.arg), .t (.int .i64 p.hi), .t (.int .i64 p.lo)]]⟩) ∨
          (e = .ret ∧ ∃ env H b, s' = ⟨(5, .t (.bool false)) :: (4, .sl b 0 0 0) :: env, H⟩ ∧ H[b]? = some (.arr tRB 3 true 0 (.ts [])))) (fun HQ2 hq2 => ?_) ?_
        · refine loop_on (fun s : Nat × List BitD => s.1 ≤ p.lit.length ∧ s.2 = B ++ (p.lit.take s.1).map litBit) (fun s => ⟨[(2, .ptr 0 0 0 0), (3, .ptr 1 0 0 0), (10, .ptr 3 0 0 0), (51, .t (.vecd 4 (f.pieces.map pieceT))), (52, .t (.int .i64 ((f.pieces.map pieceT).length : Int))), (53, .t (.int .i64 i)), (6, .sl 2 0 0 s.2.length), (11, .t (.int .i64 s.1))], [.box (descC d), .box (formC f), .arr tRB 3 false 0 (.ts (s.2.map bitT))] ++ [.box [.t (.str p.lit), .t (.int .i64 p.arg), .t (.int .i64 p.hi), .t (.int .i64 p.lo)]]⟩)
            (fun s => p.lit.length - s.1) (0, B) ⟨Nat.zero_le _, by simp⟩ ?_ (fun ⟨j, B2⟩ ⟨hj, hB2e⟩ => ?_)
          · exact weak_of ⟨rfl, rfl, rfl, rfl, rfl, rfl, rfl, rfl, trivial⟩ rfl
          have hj : j ≤ p.lit.length := hj
          have hB2e : B2 = B ++ (p.lit.take j).map litBit := hB2e
          have hB2 : B2.length = B.length + j := by rw [hB2e]; simp; omega
          refine br_intro (fun cj => ?_) (fun cj => ?_)
          · have hjl : j < p.lit.length := dlt cj
            obtain ⟨x, hx, hxm⟩ := get_some (R := p.lit) (i := j) hjl
            refine opt_intro (show p.lit[((j : Nat) : Int).toNat]? = some x from by rw [Int.toNat_natCast]; exact hx) ?_
            refine br_intro (fun _ => ?_) (fun _ => ?_)
            · refine opt_intro (show p.lit[((j : Nat) : Int).toNat]? = some x from by rw [Int.toNat_natCast]; exact hx) ?_
              refine br_intro (fun _ => ?_) (fun _ => ?_)
              · refine opt_intro (show p.lit[((j : Nat) : Int).toNat]? = some x from by rw [Int.toNat_natCast]; exact hx) ?_
                refine br_intro (fun _ => ?_) (fun _ => ?_)
                · exact hq2 _ _ (.inr ⟨rfl, _, _, _, rfl, rfl⟩)
                · skip
                  refine opt_intro (show p.lit[((j : Nat) : Int).toNat]? = some x from by rw [Int.toNat_natCast]; exact hx) ?_
                  refine Or.inl (And.intro (by simp [Sq.length]) (ck_intro (fits24 (n := B2.length + 1) (by omega)) ?_))
                  refine st_intro (n := ((j + 1 : Nat) : Int)) (nat_in (n := j + 1) (by omega)) ?_
                  have eR : B2.map bitT ++ [bitT (litBit x)] = (B2 ++ [litBit x]).map bitT := by simp
                  have eN : B2.length + 1 = (B2 ++ [litBit x]).length := by simp
                  conv => whnf
                  exact ⟨⟨(j + 1, B2 ++ [litBit x]), ⟨hjl, by show B2 ++ [litBit x] = B ++ (p.lit.take (j + 1)).map litBit; rw [hB2e, List.take_add_one, hx]; simp⟩⟩,
                    weak_gc [0, 1, 2, 3] rfl ⟨rfl, rfl, rfl, rfl, rfl, rfl, (show some (AV.sl 2 0 0 (B2.length + 1)) = some (AV.sl 2 0 0 (B2 ++ [litBit x]).length) from by rw [eN]), rfl, trivial⟩ ⟨rfl, rfl, congrArg (fun l => some (Blk.arr tRB 3 false 0 (.ts l))) eR, rfl, trivial⟩, by show p.lit.length - (j + 1) < p.lit.length - j; omega⟩
              · skip
                refine opt_intro (show p.lit[((j : Nat) : Int).toNat]? = some x from by rw [Int.toNat_natCast]; exact hx) ?_
                refine Or.inl (And.intro (by simp [Sq.length]) (ck_intro (fits24 (n := B2.length + 1) (by omega)) ?_))
                refine st_intro (n := ((j + 1 : Nat) : Int)) (nat_in (n := j + 1) (by omega)) ?_
                have eR : B2.map bitT ++ [bitT (litBit x)] = (B2 ++ [litBit x]).map bitT := by simp
                have eN : B2.length + 1 = (B2 ++ [litBit x]).length := by simp
                conv => whnf
                exact ⟨⟨(j + 1, B2 ++ [litBit x]), ⟨hjl, by show B2 ++ [litBit x] = B ++ (p.lit.take (j + 1)).map litBit; rw [hB2e, List.take_add_one, hx]; simp⟩⟩,
                  weak_gc [0, 1, 2, 3] rfl ⟨rfl, rfl, rfl, rfl, rfl, rfl, (show some (AV.sl 2 0 0 (B2.length + 1)) = some (AV.sl 2 0 0 (B2 ++ [litBit x]).length) from by rw [eN]), rfl, trivial⟩ ⟨rfl, rfl, congrArg (fun l => some (Blk.arr tRB 3 false 0 (.ts l))) eR, rfl, trivial⟩, by show p.lit.length - (j + 1) < p.lit.length - j; omega⟩
            · skip
              refine opt_intro (show p.lit[((j : Nat) : Int).toNat]? = some x from by rw [Int.toNat_natCast]; exact hx) ?_
              refine Or.inl (And.intro (by simp [Sq.length]) (ck_intro (fits24 (n := B2.length + 1) (by omega)) ?_))
              refine st_intro (n := ((j + 1 : Nat) : Int)) (nat_in (n := j + 1) (by omega)) ?_
              have eR : B2.map bitT ++ [bitT (litBit x)] = (B2 ++ [litBit x]).map bitT := by simp
              have eN : B2.length + 1 = (B2 ++ [litBit x]).length := by simp
              conv => whnf
              exact ⟨⟨(j + 1, B2 ++ [litBit x]), ⟨hjl, by show B2 ++ [litBit x] = B ++ (p.lit.take (j + 1)).map litBit; rw [hB2e, List.take_add_one, hx]; simp⟩⟩,
                weak_gc [0, 1, 2, 3] rfl ⟨rfl, rfl, rfl, rfl, rfl, rfl, (show some (AV.sl 2 0 0 (B2.length + 1)) = some (AV.sl 2 0 0 (B2 ++ [litBit x]).length) from by rw [eN]), rfl, trivial⟩ ⟨rfl, rfl, congrArg (fun l => some (Blk.arr tRB 3 false 0 (.ts l))) eR, rfl, trivial⟩, by show p.lit.length - (j + 1) < p.lit.length - j; omega⟩
          · have hjl : j = p.lit.length := by have := dge cj; omega
            have e : B2 = B ++ rawP p := by rw [hB2e, hrp, hjl, List.take_length]
            exact hq2 _ _ (.inl ⟨rfl, _, _, _, _, _, j, by rw [← e]; rfl⟩)
        rintro _ _ (⟨rfl, b0, b1, b2, b3, b4, j, rfl⟩ | ⟨rfl, env, H, b, rfl, hb⟩)
        · skip
          refine st_intro (n := ((i + 1 : Nat) : Int)) (nat_in (n := i + 1) (by omega)) ?_
          conv => whnf
          exact ⟨⟨(i + 1, B ++ rawP p), hnew⟩, weak_gc [0, 1, 2] rfl ⟨rfl, rfl, rfl, rfl, rfl, rfl, trivial⟩ ⟨rfl, rfl, rfl, trivial⟩, by show f.pieces.length - (i + 1) < f.pieces.length - i; omega⟩
        · exact HQ _ _ (.inr ⟨rfl, _, _, _, rfl, hb⟩)
      · have hrp : rawP p = opBits p.arg p.hi (pieceN p) := by rw [rawP, if_neg ca]
        obtain ⟨T0, hT0⟩ : ∃ T0, T0 = pieceN p := ⟨_, rfl⟩
        have hT1 : T0 = (p.hi - p.lo + 1).toNat := hT0
        rw [← hT0] at hrp
        have hpn : (rawP p).length = T0 := by rw [hrp, opBits_len]
        have hpa := at_lt hg
        obtain ⟨g2, hg2, hgm, hgg⟩ := at_some hpa
        obtain rfl : g = g2 := by rw [hg] at hg2; exact Option.some.inj hg2
        have hcl := at_lt hk
        obtain ⟨k2, hk2, _, hkg⟩ := at_some hcl
        obtain rfl : k = k2 := by rw [hk] at hk2; exact Option.some.inj hk2
        refine br_intro (fun c => absurd (show p.arg = -1 by simpa using c) ca) (fun _ => ?_)
        refine draw_introS ord_78_22 (by decide +kernel) ?_
        refine CallS.pure (place_runs _ _) rfl ?_
        refine And.intro (fun j hj => by first | (cases hj; done) | exact LeX.append _ _ _ | exact LeX.refl _ _) ?_
        refine br_intro (fun _ => ?_) (fun _ => ?_)
        · exact HQ _ _ (.inr ⟨rfl, _, _, _, rfl, rfl⟩)
        refine br_intro (fun _ => ?_) (fun _ => ?_)
        · exact HQ _ _ (.inr ⟨rfl, _, _, _, rfl, rfl⟩)
        refine br_intro (fun _ => ?_) (fun _ => ?_)
        · exact HQ _ _ (.inr ⟨rfl, _, _, _, rfl, rfl⟩)
        refine ck_intro (ix0 rfl hpa.1) ?_
        refine opt_intro (row_get hgg) ?_
        refine ck_intro (ix0 rfl hcl.1) ?_
        refine opt_intro (row_get hkg) ?_
        refine br_intro (fun _ => ?_) (fun _ => ?_)
        · exact HQ _ _ (.inr ⟨rfl, _, _, _, rfl, rfl⟩)
        refine loop_then (fun e s' => (e = .exit 6 ∧ ∃ (b0 b1 b2 b3 : AV) (z : Int), s' = ⟨[(138, b0), (137, b1), (136, b2), (135, b3), (2, .ptr 0 0 0 0), (3, .ptr 1 0 0 0), (10, .ptr 3 0 0 0), (51, .t (.vecd 4 (f.pieces.map pieceT))), (52, .t (.int .i64 ((f.pieces.map pieceT).length : Int))), (53, .t (.int .i64 i)), (6, .sl 2 0 0 (B ++ rawP p).length), (12, .t (.int .i64 z))], [.box (descC d), .box (formC f), .arr tRB 3 false 0 (.ts ((B ++ rawP p).map bitT))] ++ [.box [.t (.str p.lit), .t (.int .i64 p.arg), .t (.int .i64 p.hi), .t (.int .i64 p.lo)]]⟩)) (fun HQ2 hq2 => ?_) ?_
        · refine loop_on (fun s : Nat × List BitD => s.1 ≤ T0 ∧ s.2 = B ++ opBits p.arg p.hi s.1) (fun s => ⟨[(2, .ptr 0 0 0 0), (3, .ptr 1 0 0 0), (10, .ptr 3 0 0 0), (51, .t (.vecd 4 (f.pieces.map pieceT))), (52, .t (.int .i64 ((f.pieces.map pieceT).length : Int))), (53, .t (.int .i64 i)), (6, .sl 2 0 0 s.2.length), (12, .t (.int .i64 (p.hi - s.1)))], [.box (descC d), .box (formC f), .arr tRB 3 false 0 (.ts (s.2.map bitT))] ++ [.box [.t (.str p.lit), .t (.int .i64 p.arg), .t (.int .i64 p.hi), .t (.int .i64 p.lo)]]⟩)
            (fun s => T0 - s.1) (0, B) ⟨Nat.zero_le _, by simp [opBits]⟩ ?_ (fun ⟨m, B2⟩ ⟨hm, hB2e⟩ => ?_)
          · exact weak_of ⟨rfl, rfl, rfl, rfl, rfl, rfl, rfl, by show AV.t (T.int .i64 p.hi) = AV.t (T.int .i64 (p.hi - ((0 : Nat) : Int))); simp, trivial⟩ rfl
          have hm : m ≤ T0 := hm
          have hB2e : B2 = B ++ opBits p.arg p.hi m := hB2e
          have hB2 : B2.length = B.length + m := by rw [hB2e, List.length_append, opBits_len]
          refine br_intro (fun cj => ?_) (fun cj => ?_)
          · have cj : p.hi - (m : Int) ≥ p.lo := of_decide_eq_true cj
            refine Or.inl (And.intro (by simp [Sq.length]) (ck_intro (fits24 (n := B2.length + 1) (by omega)) ?_))
            have hpi := (hf.2.2.2.2.2.1 p hpm).2.2.1
            refine st_intro (n := p.hi - ((m + 1 : Nat) : Int)) (show IntKind.i64.wrap (p.hi - (m : Int) - 1) = _ from by have h1 := hpi.1; have h2 := hpi.2; rw [IntKind.wrap_i64]; omega) ?_
            obtain ⟨nb, hnb⟩ : ∃ nb : BitD, nb = ⟨0, p.arg, p.hi - (m : Int)⟩ := ⟨_, rfl⟩
            have eR : B2.map bitT ++ [.agg [.int .u8 0, .int .i64 p.arg, .int .i64 (p.hi - (m : Int))]] = (B2 ++ [nb]).map bitT := by rw [hnb, List.map_append]; rfl
            have eN : B2.length + 1 = (B2 ++ [nb]).length := by simp
            conv => whnf
            exact ⟨⟨(m + 1, B2 ++ [nb]), ⟨by omega, by show B2 ++ [nb] = B ++ opBits p.arg p.hi (m + 1); rw [hB2e, opBits_succ, List.append_assoc, hnb]⟩⟩,
              weak_gc [0, 1, 2, 3] rfl ⟨rfl, rfl, rfl, rfl, rfl, rfl, (show some (AV.sl 2 0 0 (B2.length + 1)) = some (AV.sl 2 0 0 (B2 ++ [nb]).length) from by rw [eN]), rfl, trivial⟩ ⟨rfl, rfl, congrArg (fun l => some (Blk.arr tRB 3 false 0 (.ts l))) eR, rfl, trivial⟩, by show T0 - (m + 1) < T0 - m; omega⟩
          · have cj : ¬ p.hi - (m : Int) ≥ p.lo := of_decide_eq_false cj
            have e : B2 = B ++ rawP p := by rw [hB2e, hrp, show m = T0 by omega]
            exact hq2 _ _ ⟨rfl, _, _, _, _, p.hi - (m : Int), by rw [← e]; rfl⟩
        rintro _ _ ⟨rfl, b0, b1, b2, b3, z, rfl⟩
        refine st_intro (n := ((i + 1 : Nat) : Int)) (nat_in (n := i + 1) (by omega)) ?_
        conv => whnf
        exact ⟨⟨(i + 1, B ++ rawP p), hnew⟩, weak_gc [0, 1, 2] rfl ⟨rfl, rfl, rfl, rfl, rfl, rfl, trivial⟩ ⟨rfl, rfl, rfl, trivial⟩, by show f.pieces.length - (i + 1) < f.pieces.length - i; omega⟩
    · have c : i = f.pieces.length := by have := dge c; omega
      have e : B = rawB f.pieces := by rw [hB, c, List.take_length]
      exact HQ _ _ (.inl ⟨rfl, i, by rw [← e]; rfl⟩)
  rintro _ _ (⟨rfl, i1, rfl⟩ | ⟨rfl, env, H, b, rfl, hb⟩)
  rotate_left 1
  · exact nil_end hb
  obtain ⟨R, hR⟩ : ∃ R, R = rawB f.pieces := ⟨_, rfl⟩
  have hRl : R.length ≤ 120 := by rw [hR]; exact hG.le
  refine loop_then (fun e s' => (e = .exit 8 ∧ ∃ (b0 : AV) (i : Nat) (cs : List Int), cs.length = 384 ∧ s' = ⟨[(153, b0), (2, .ptr 0 0 0 0), (3, .ptr 1 0 0 0), (6, .sl 2 0 0 R.length), (13, .ptr 3 0 0 0), (150, .sl 2 0 0 R.length), (151, .t (.int .i64 (R.length : Int))), (152, .t (.int .i64 i))], [.box (descC d), .box (formC f), .arr tRB 3 false 0 (.ts (R.map bitT)), .arr tCnt 384 false 0 (.ts [cntT cs])]⟩)) (fun HQ' HQ => ?_) ?_
  · refine loop_on (fun s : Nat × List Int => s.1 ≤ R.length ∧ s.2.length = 384) (fun s => ⟨[(2, .ptr 0 0 0 0), (3, .ptr 1 0 0 0), (6, .sl 2 0 0 R.length), (13, .ptr 3 0 0 0), (150, .sl 2 0 0 R.length), (151, .t (.int .i64 (R.length : Int))), (152, .t (.int .i64 s.1))], [.box (descC d), .box (formC f), .arr tRB 3 false 0 (.ts (R.map bitT)), .arr tCnt 384 false 0 (.ts [cntT s.2])]⟩)
      (fun s => R.length - s.1) (0, List.replicate 384 0) ⟨Nat.zero_le _, List.length_replicate⟩ ?_ (fun ⟨i, cs⟩ ⟨hi, hcs⟩ => ?_)
    · rw [hR]
      exact weak_of ⟨rfl, rfl, rfl, rfl, rfl, rfl, rfl, trivial⟩ rfl
    have hi : i ≤ R.length := hi
    have hcs : cs.length = 384 := hcs
    refine br_intro (fun c => ?_) (fun c => ?_)
    · have c : i < R.length := by have := dlt c; omega
      obtain ⟨x, hx, hxm⟩ := get_some (R := R) (i := i) c
      have hxi := hG.isRaw x (by rw [← hR]; exact hxm)
      refine ck_intro (inB0 rfl (by omega)) ?_
      refine opt_intro (map_get0 hx) ?_
      refine br_intro (fun c0 => ?_) (fun c0 => ?_)
      · have c0 : x.lit = 0 := by have : (((x.lit : Nat) : Int) == 0) = true := c0
                                  simp at this; omega
        obtain ⟨ai, a, k, m, ha, hai, hak, hm, hmk, hok⟩ : ∃ (i : Nat) (a : ArgD) (k : ClassD) (m : Nat), x.arg = (i : Int) ∧ f.args[i]? = some a ∧ at? d.classes a.cls = some k ∧ x.num = (m : Int) ∧ (m : Int) < k.bits ∧ ClassOK d k := by
          rcases hxi with ⟨_, _, h⟩ | ⟨_, h⟩
          · omega
          · exact h
        have hal := (List.getElem?_eq_some_iff.1 hai).1
        have hm64 : m < 64 := by rcases hok with h | h | h <;> omega
        obtain ⟨v, hv, hvl⟩ := cnt_get hcs ha hm (by omega) hm64
        obtain ⟨g, hg⟩ : ∃ g, IntKind.i64.wrap (v + 1) = g := ⟨_, rfl⟩
        refine draw_introS ord_78_34 (by decide +kernel) ?_
        refine ck_intro (inBx (by omega) (by omega)) ?_
        conv => whnf
        refine foN_w (by rfl) ?_
        refine ck_intro (inBx (by omega) (by omega)) ?_
        conv => whnf
        refine foN_w (by rfl) ?_
        refine opt_intro hv ?_
        refine st_intro hg ?_
        refine ck_intro (inBx (by omega) (by omega)) ?_
        conv => whnf
        refine foN_w (by rfl) ?_
        refine ck_intro (inBx (by omega) (by omega)) ?_
        conv => whnf
        refine foN_w (by rfl) ?_
        refine ck_intro (cnt_ck hvl) ?_
        refine And.intro (fun j hj => by cases hj) ?_
        refine st_intro (n := ((i + 1 : Nat) : Int)) (nat_in (n := i + 1) (by omega)) ?_
        conv => whnf
        exact ⟨⟨(i + 1, cs.set (0 + x.arg.toNat * 64 + x.num.toNat * 1) g), ⟨by omega, by simp [hcs]⟩⟩, weak_gc [0, 1, 2, 3] rfl ⟨rfl, rfl, rfl, rfl, rfl, rfl, rfl, trivial⟩ ⟨rfl, rfl, rfl, congrArg (fun l => some (Blk.arr tCnt 384 false 0 (.ts [l]))) cnt_set, trivial⟩, by show R.length - (i + 1) < R.length - i; omega⟩
      · skip
        refine st_intro (n := ((i + 1 : Nat) : Int)) (nat_in (n := i + 1) (by omega)) ?_
        conv => whnf
        exact ⟨⟨(i + 1, cs), ⟨by omega, by simp [hcs]⟩⟩, weak_gc [0, 1, 2, 3] rfl ⟨rfl, rfl, rfl, rfl, rfl, rfl, rfl, trivial⟩ ⟨rfl, rfl, rfl, rfl, trivial⟩, by show R.length - (i + 1) < R.length - i; omega⟩
    · exact HQ _ _ ⟨rfl, _, i, cs, hcs, rfl⟩
  rintro _ _ ⟨rfl, b0, i2, cs, hcs, rfl⟩
  refine loop_then (fun e s' => (e = .exit 10 ∧ ∃ (b0 : AV) (i : Nat), s' = ⟨[(174, b0), (2, .ptr 0 0 0 0), (6, .sl 2 0 0 R.length), (13, .ptr 3 0 0 0), (171, .t (.vecd 2 (f.args.map argT))), (172, .t (.int .i64 ((f.args.map argT).length : Int))), (173, .t (.int .i64 i))], [.box (descC d), .box (formC f), .arr tRB 3 false 0 (.ts (R.map bitT)), .arr tCnt 384 false 0 (.ts [cntT cs])]⟩) ∨
    (e = .ret ∧ ∃ env H b, s' = ⟨(5, .t (.bool false)) :: (4, .sl b 0 0 0) :: env, H⟩ ∧ H[b]? = some (.arr tRB 3 true 0 (.ts [])))) (fun HQ' HQ => ?_) ?_
  · refine loop_on (fun i : Nat => i ≤ f.args.length) (fun i => ⟨[(2, .ptr 0 0 0 0), (6, .sl 2 0 0 R.length), (13, .ptr 3 0 0 0), (171, .t (.vecd 2 (f.args.map argT))), (172, .t (.int .i64 ((f.args.map argT).length : Int))), (173, .t (.int .i64 i))], [.box (descC d), .box (formC f), .arr tRB 3 false 0 (.ts (R.map bitT)), .arr tCnt 384 false 0 (.ts [cntT cs])]⟩)
      (fun i => f.args.length - i) 0 (Nat.zero_le _) ?_ (fun i hi => ?_)
    · exact weak_of ⟨rfl, rfl, rfl, rfl, rfl, rfl, trivial⟩ rfl
    have hi : i ≤ f.args.length := hi
    refine br_intro (fun c => ?_) (fun c => ?_)
    · have c : i < f.args.length := by have := dlt c; omega
      obtain ⟨a, ha, ham⟩ := get_some (R := f.args) (i := i) c
      obtain ⟨k, hk, hok⟩ := hG.aok a ham
      have hcl := at_lt hk
      obtain ⟨k2, hk2, _, hkg⟩ := at_some hcl
      obtain rfl : k = k2 := by rw [hk] at hk2; exact Option.some.inj hk2
      have hb : 1 ≤ k.bits ∧ k.bits ≤ 64 := by rcases hok with h | h | h <;> omega
      refine opt_intro (show (f.args.map argT)[((i : Nat) : Int).toNat]? = some (argT a) from by rw [Int.toNat_natCast, List.getElem?_map, ha]; rfl) ?_
      refine loop_then (fun e s' => (e = .exit 12 ∧ ∃ (b0 b1 b2 b3 b4 b5 b6 b7 b8 : AV) (n : Nat), s' = ⟨[(186, b0), (185, b1), (184, b2), (183, b3), (182, b4), (181, b5), (180, b6), (179, b7), (178, b8), (2, .ptr 0 0 0 0), (6, .sl 2 0 0 R.length), (13, .ptr 3 0 0 0), (171, .t (.vecd 2 (f.args.map argT))), (172, .t (.int .i64 ((f.args.map argT).length : Int))), (173, .t (.int .i64 i)), (16, .t (.int .i64 i)), (17, .ptr 4 0 0 0), (18, .t (.int .i64 n))], [.box (descC d), .box (formC f), .arr tRB 3 false 0 (.ts (R.map bitT)), .arr tCnt 384 false 0 (.ts [cntT cs])] ++ [.box [.t (.str a.name), .t (.int .i64 a.cls)]]⟩) ∨
        (e = .ret ∧ ∃ env H b, s' = ⟨(5, .t (.bool false)) :: (4, .sl b 0 0 0) :: env, H⟩ ∧ H[b]? = some (.arr tRB 3 true 0 (.ts [])))) (fun HQ2' HQ2 => ?_) ?_
      · refine loop_on (fun n : Nat => (n : Int) ≤ k.bits) (fun n => ⟨[(2, .ptr 0 0 0 0), (6, .sl 2 0 0 R.length), (13, .ptr 3 0 0 0), (171, .t (.vecd 2 (f.args.map argT))), (172, .t (.int .i64 ((f.args.map argT).length : Int))), (173, .t (.int .i64 i)), (16, .t (.int .i64 i)), (17, .ptr 4 0 0 0), (18, .t (.int .i64 n))], [.box (descC d), .box (formC f), .arr tRB 3 false 0 (.ts (R.map bitT)), .arr tCnt 384 false 0 (.ts [cntT cs])] ++ [.box [.t (.str a.name), .t (.int .i64 a.cls)]]⟩)
          (fun n => (k.bits - n).toNat) 0 (by show ((0 : Nat) : Int) ≤ k.bits; omega) ?_ (fun n hn => ?_)
        · exact weak_of ⟨rfl, rfl, rfl, rfl, rfl, rfl, rfl, rfl, rfl, trivial⟩ rfl
        have hn : (n : Int) ≤ k.bits := hn
        refine ck_intro (ix0 rfl hcl.1) ?_
        refine opt_intro (row_get hkg) ?_
        refine br_intro (fun cn => ?_) (fun cn => ?_)
        · have cn : (n : Int) < k.bits := of_decide_eq_true cn
          obtain ⟨v, hv, hvl⟩ := cnt_get hcs (a := ((i : Nat) : Int)) (n := ((n : Nat) : Int)) rfl rfl (by omega) (by omega)
          refine ck_intro (inBx (by omega) (by omega)) ?_
          conv => whnf
          refine foN_w (by rfl) ?_
          refine ck_intro (inBx (by omega) (by omega)) ?_
          conv => whnf
          refine foN_w (by rfl) ?_
          refine opt_intro hv ?_
          refine br_intro (fun _ => ?_) (fun _ => ?_)
          · exact HQ2 _ _ (.inr ⟨rfl, _, _, _, rfl, rfl⟩)
          refine st_intro (n := ((n + 1 : Nat) : Int)) (nat_in (n := n + 1) (by omega)) ?_
          conv => whnf
          exact ⟨⟨n + 1, by show ((n + 1 : Nat) : Int) ≤ k.bits; omega⟩, weak_gc [0, 1, 2, 3, 4] rfl ⟨rfl, rfl, rfl, rfl, rfl, rfl, rfl, rfl, rfl, trivial⟩ ⟨rfl, rfl, rfl, rfl, rfl, trivial⟩, by show (k.bits - ((n + 1 : Nat) : Int)).toNat < (k.bits - (n : Int)).toNat; omega⟩
        · exact HQ2 _ _ (.inl ⟨rfl, _, _, _, _, _, _, _, _, _, n, rfl⟩)
      rintro _ _ (⟨rfl, b0, b1, b2, b3, b4, b5, b6, b7, b8, n, rfl⟩ | ⟨rfl, env, H, b, rfl, hb⟩)
      · refine st_intro (n := ((i + 1 : Nat) : Int)) (nat_in (n := i + 1) (by omega)) ?_
        conv => whnf
        exact ⟨⟨i + 1, c⟩, weak_gc [0, 1, 2, 3] rfl ⟨rfl, rfl, rfl, rfl, rfl, rfl, trivial⟩ ⟨rfl, rfl, rfl, rfl, trivial⟩, by show f.args.length - (i + 1) < f.args.length - i; omega⟩
      · exact HQ _ _ (.inr ⟨rfl, _, _, _, rfl, hb⟩)
    · exact HQ _ _ (.inl ⟨rfl, _, i, rfl⟩)
  rintro _ _ (⟨rfl, b1, i3, rfl⟩ | ⟨rfl, env, H, b, rfl, hb⟩)
  rotate_left 1
  · exact nil_end hb
  have fin : ∀ (b : Bool), ∃ r, WrS f r ∧ PackD r (.tup [.sl 2 0 0 R.length, .t (.bool b)]) [.box (descC d), .box (formC f), .arr tRB 3 false 0 (.ts (R.map bitT)), .arr tCnt 384 false 0 (.ts [cntT cs])] := fun b =>
    ⟨_, .inr ⟨b, rfl⟩, ⟨⟨R.map bitT, rfl, rfl, by simp, by rw [hR]; exact .refl _⟩, ⟨_, _, rfl, .refl _⟩, trivial⟩, rfl⟩
  obtain ⟨m, hm⟩ : ∃ m, m = R.length % 8 := ⟨_, rfl⟩
  refine ck_intro rfl ?_
  refine st_intro (n := ((m : Nat) : Int)) (show ((R.length : Nat) : Int).tmod 8 = _ from by rw [Int.tmod_eq_emod_of_nonneg (by omega)]; omega) ?_
  refine br_intro (fun _ => ?_) (fun _ => ?_)
  · refine br_intro (fun _ => ?_) (fun _ => ?_)
    · exact fin _
    · exact fin _
  · exact fin _

end Go.Proofs.YtnjmeadmkbkikaaGreatDoor
