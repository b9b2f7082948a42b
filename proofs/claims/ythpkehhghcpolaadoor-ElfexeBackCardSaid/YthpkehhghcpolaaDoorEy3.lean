/-
  elfexe.Write where it writes.
-/
import Derived.Test.YthpkehhghcpolaaDoorEy2
namespace Go.Proofs.YthpkehhghcpolaaDoor
open Go.IntWalk
set_option maxRecDepth 100000
set_option linter.unusedVariables false
set_option linter.unusedSimpArgs false

noncomputable def regS : RegP := regD Tryd.prog tabS
theorem regS_ok : RegOK Tryd.prog tabS regS := regD_ok tabS_ok mixed
theorem draw_introS {ops : Array Oper} {s : St} {K : St → Prop} (σ : Ord) (h : drawOK ops (masks ops) σ [] [] = true) (k : xdr tabS (CallS Tryd.prog) ops (fun _ => []) σ s K) : regS ops s K := ⟨_, σ, h, k⟩

def ordW11 : Ord := (.op 0 [] (.op 1 [0] (.op 2 [] (.op 3 [] (.op 4 [] (.op 5 [4, 3, 2, 1, 0] (.op 6 [4, 3, 2, 1, 0] (.op 7 [] (.op 8 [7, 6, 5, 4, 3, 2, 1, 0] (.op 9 [8, 7, 6, 5, 4, 3, 2, 1, 0] (.op 10 [7, 6, 5, 4, 3, 2, 1, 0] (.op 11 [7, 6, 5, 4, 3, 2, 1, 0] (.op 12 [7, 6, 5, 4, 3, 2, 1, 0] (.op 13 [] (.op 14 [] (.op 15 [] .nil))))))))))))))))
def ordBy : Ord := (.op 0 [] (.op 1 [] (.op 2 [] (.op 3 [] (.op 4 [3, 2, 1, 0] (.op 5 [3, 2, 1, 0] (.op 6 [3, 2, 1, 0] (.op 7 [3, 2, 1, 0] (.op 8 [] (.op 9 [] .nil))))))))))

/-- Where the first header's data may lie. -/
def at0 (x : ExeD) : Nat := 64 + 56 * (hdsOf x).length
def exeC (x : ExeD) : List AV := [.t (.int .i64 x.m), .t (.int .i64 x.e), .t (.vecd 4 (x.ss.map segT)), .t (.vecd 4 (x.ts.map segT))]
def noBuf : Blk := .box [.t .nils, .t (.int .i64 0), .t (.int .i8 0)]

/-- No byte, written to a buffer that holds none. -/
theorem write_nothing (x : ExeD) (R D : List T) {z : Nat} (hz : z = 0) : CallS Tryd.prog 25 [.ptr 3 0 0 0, .sl 5 0 0 z] [.box (exeC x), .arr 60 8 true 0 (.ts R), .arr 27 1 true 0 (.ts D), noBuf, noBuf, .arr 5 1 false 0 (.ts (List.replicate z (T.int .u8 0)))]
    (fun r H' => r = .tup [.t (.int .i64 0), .t .nili] ∧ H' = [.box (exeC x), .arr 60 8 true 0 (.ts R), .arr 27 1 true 0 (.ts D), noBuf, noBuf, .arr 5 1 false 0 (.ts [])]) := by
  subst hz
  refine CallS.of_fn tabS_ok regS_ok Tryd.func25 rfl rfl ?_
  refine CallS.of_fn tabS_ok regS_ok Tryd.func52 rfl rfl ?_
  exact ⟨rfl, rfl⟩

/-- The file as far as it is written behind k headers. -/
def outK (x : ExeD) (k : Nat) : List UInt8 := frontB x (hdsOf x).length ++ hdsB ((hdsOf x).take k) (offsOf (at0 x) ((hdsOf x).take k))

/-- The second loop's head. -/
def wqE (x : ExeD) (k : Nat) : List (Nat × AV) :=
  [(1, .ptr 0 0 0 0), (6, .ptr 3 0 0 0), (7, .ptr 4 0 0 0), (106, .sl 1 0 0 (hdsOf x).length), (107, .t (.int .i64 ((hdsOf x).length : Int))), (108, .t (.int .i64 (k : Int)))]
def wqF (x : ExeD) (k : Nat) : St :=
  ⟨wqE x k, [.box (exeC x), .arr 60 8 true 0 (.ts (rowK (at0 x) (hdsOf x) (hdsOf x).length)), .arr 27 1 true 0 (.ts ((hdsOf x).map datH)), noBuf, .box [.sl 5 0 0 (U (outK x k)).length, .t (.int .i64 0), .t (.int .i8 0)], .arr 5 1 false 0 (.ts (U (outK x k)))]⟩
def wqT (x : ExeD) (k : Nat) : St :=
  ⟨wqE x k, [.box (exeC x), .arr 60 8 true 0 (.ts (rowK (at0 x) (hdsOf x) (hdsOf x).length)), .arr 27 1 true 0 (.ts ((hdsOf x).map datH)), .box [.sl 5 0 0 (U (bodyOf (at0 x) (hdsOf x))).length, .t (.int .i64 0), .t (.int .i8 0)], .box [.sl 6 0 0 (U (outK x k)).length, .t (.int .i64 0), .t (.int .i8 0)], .arr 5 1 false 0 (.ts (U (bodyOf (at0 x) (hdsOf x)))), .arr 5 1 false 0 (.ts (U (outK x k)))]⟩

/-- The first loop's head. -/
def wrE (x : ExeD) (k : Nat) : List (Nat × AV) :=
  [(1, .ptr 0 0 0 0), (4, .sl 1 0 0 (hdsOf x).length), (5, .sl 2 0 0 (hdsOf x).length), (6, .ptr 3 0 0 0), (7, .ptr 4 0 0 0), (8, .t (.int .i64 ((endOf (at0 x) ((hdsOf x).take k) : Nat) : Int))), (28, .t (.int .i64 ((hdsOf x).length : Int))), (29, .t (.int .i64 (k : Int)))]
def wrS (x : ExeD) : Nat × Bool → St
  | (k, false) => ⟨wrE x k, [.box (exeC x), .arr 60 8 true 0 (.ts (rowK (at0 x) (hdsOf x) k)), .arr 27 1 true 0 (.ts ((hdsOf x).map datH)), noBuf, noBuf]⟩
  | (k, true) => ⟨wrE x k, [.box (exeC x), .arr 60 8 true 0 (.ts (rowK (at0 x) (hdsOf x) k)), .arr 27 1 true 0 (.ts ((hdsOf x).map datH)), .box [.sl 5 0 0 (U (bodyOf (at0 x) ((hdsOf x).take k))).length, .t (.int .i64 0), .t (.int .i8 0)], noBuf,
      .arr 5 1 false 0 (.ts (U (bodyOf (at0 x) ((hdsOf x).take k))))]⟩

def wrI (x : ExeD) (a : Nat × Bool) : Prop := a.1 ≤ (hdsOf x).length ∧ (a.2 = false → bodyOf (at0 x) ((hdsOf x).take a.1) = []) ∧ (a.2 = true → bodyOf (at0 x) ((hdsOf x).take a.1) ≠ [])

theorem ix_in {k n : Nat} (h : k < n) : (true && true && inB (k : Int) n) = true := by simp [inB]; omega
theorem ix_get {l : List T} {k : Nat} {e : T} (h : l[k]? = some e) : l[0 + ((k : Nat) : Int).toNat]? = some e := by rw [Int.toNat_natCast, Nat.zero_add]; exact h
theorem nz {n : Nat} (h : 1 ≤ n) : (!decide ((n : Int) = 0)) = true := by simp; omega
theorem mkS_ok {n : Nat} (h : n ≤ 140737488355328) : (decide (0 ≤ (n : Int)) && decide ((n : Int) ≤ n) && decide ((n : Int) * 1 ≤ 140737488355328) && decide ((n : Int) ≤ 9223372036854775807) && true && true && true) = true := by simp; omega
theorem srcH_vecd {e : TypeId} {H : AH} {l : List T} (h : l ≠ []) : srcH e H (.t (.vecd 1 l)) = some l := by
  cases l with
  | nil => exact (h rfl).elim
  | cons a r => rfl
theorem srcH_row {e k g n : Nat} {z : Bool} {H : AH} {l : List T} (hk : H[k]? = some (.arr e 1 z g (.ts l))) (hn : n = l.length) (hz : z = true → 1 ≤ l.length) : srcH e H (.sl k g 0 n) = some l := by
  subst hn
  unfold srcH srcG
  dsimp only
  rw [hk]
  have h1 : Nat.ble (Nat.add 0 l.length) l.length = true := Nat.ble_eq_true_of_le (by show 0 + l.length ≤ l.length; omega)
  have h2 : (!z || Nat.ble 1 l.length) = true := by
    cases z with
    | false => rfl
    | true => exact Nat.ble_eq_true_of_le (hz rfl)
  simp only [Nat.beq_refl, h1, h2, Bool.and_self, List.drop_zero, List.take_length]
theorem U_rep (n : Nat) : List.replicate n (T.int .u8 0) = U (List.replicate n 0) := by simp [U]

set_option maxHeartbeats 4000000 in
theorem write_good {x : ExeD} (hb : ExeB x) (h : SoundP x) (hm : ¬ manyP x) (r : AV) (hnr : noRef r = true) (h1 : 67108864 < endOf (at0 x) (hdsOf x) → r = .tup [.own 5 1 true [], .t (.int .i64 183)])
    (h2 : endOf (at0 x) (hdsOf x) ≤ 67108864 → r = .tup [oU false (fileL x), .t (.int .i64 0)]) : Runs Tryd.prog 11 [exeT x] r := by
  have hS := sound_runs' hb
  rw [decide_eq_true h] at hS
  have hM := many_runs' hb h
  rw [decide_eq_false hm] at hM
  have hH := headers_runs' hb h
  rw [row_first h (at0 x), dat_first] at hH
  have hok := hds_ok h
  have hn : (hdsOf x).length ≤ 33 := by
    have h3 := h.t
    have : x.ss.length ≤ 32 := Nat.le_of_not_lt fun q => hm (.inl q)
    simp only [hdsOf, List.length_append, List.length_map]; omega
  have hl0 := rowK_len (at0 x) (hdsOf x) 0 (Nat.zero_le _)
  have ha0 : at0 x ≤ 2000 := by unfold at0; omega
  refine Runs.of_call ?_ hnr
  refine CallS.of_fn tabS_ok regS_ok Tryd.func11 rfl rfl ?_
  refine CallS.frzG hS rfl ⟨.refl _, trivial⟩ ?_
  refine CallS.frzG hM rfl ⟨.refl _, trivial⟩ ?_
  refine CallS.frzG hH rfl ⟨.refl _, trivial⟩ ?_
  refine st_intro (n := ((56 * (hdsOf x).length : Nat) : Int)) (by rw [hl0, i64_in _ (by omega)]; omega) ?_
  refine st_intro (n := ((at0 x : Nat) : Int)) (by rw [i64_in _ (by omega)]; unfold at0; omega) ?_
  refine loop_on (wrI x) (wrS x) (fun a => (hdsOf x).length - a.1) (0, false) ⟨Nat.zero_le _, fun _ => rfl, fun h => by cases h⟩ ?_ (fun a hi => ?_)
  · refine weak_gc [0, 2, 3, 4, 5] rfl ⟨rfl, congrArg (fun n => some (AV.sl 1 0 0 n)) hl0, congrArg (fun n => some (AV.sl 2 0 0 n)) (by simp), rfl, rfl, rfl, congrArg (fun n : Nat => some (AV.t (.int .i64 (n : Int)))) hl0, rfl, trivial⟩ ⟨rfl, rfl, rfl, rfl, rfl, trivial⟩
  obtain ⟨k, bb⟩ := a
  obtain ⟨hk, hf, ht⟩ := hi
  simp only at hk hf ht
  have hat := end_take hok (at0 x) k hk
  have hbo := body_take hok (at0 x) k hk
  cases bb with
  | false =>
    refine br_intro (fun c => ?_) (fun c => ?_)
    · have hkn : k < (hdsOf x).length := by have := of_decide_eq_true c; omega
      obtain ⟨hd, hhd⟩ : ∃ hd, (hdsOf x)[k]? = some hd := ⟨_, List.getElem?_eq_getElem hkn⟩
      have ok := hok hd (List.mem_of_getElem? hhd)
      have o1 := ok.v; have o2 := ok.al1; have o3 := ok.al2; have o4 := ok.d
      have hg := rowK_get (a := at0 x) hhd
      have hdat : ((hdsOf x).map datH)[k]? = some (datH hd) := by rw [List.getElem?_map, hhd]; rfl
      have hend := endOf_succ (at0 x) hhd
      have hbod := bodyOf_succ (at0 x) hhd
      have hgl := gap_lt ok (endOf (at0 x) ((hdsOf x).take k))
      have hset0 := rowK_set (a := at0 x) hhd
      obtain ⟨e, he⟩ : ∃ e, e = endOf (at0 x) ((hdsOf x).take k) := ⟨_, rfl⟩
      rw [← he] at hat hend hbod hgl hset0
      obtain ⟨g, hg'⟩ : ∃ g, g = gapOf e hd := ⟨_, rfl⟩
      rw [← hg'] at hbod hgl hset0
      rw [stepAt, ← hg'] at hend
      obtain ⟨m, hm'⟩ : ∃ m, m = (hd.v + 18446744073709551616 - e) % 18446744073709551616 := ⟨_, rfl⟩
      have hmg : m % hd.al = g := by rw [hm', hg']; rfl
      have hset : (rowK (at0 x) (hdsOf x) k).set (0 + ((k : Nat) : Int).toNat) (setCells (hdrT hd 0) 2 [T.int .u64 ((e + g : Nat) : Int)]) = rowK (at0 x) (hdsOf x) (k + 1) := by rw [Int.toNat_natCast, Nat.zero_add]; exact hset0
      by_cases hd0 : hd.d.length = 0
      · rw [if_pos hd0] at hend
        rw [if_pos hd0, List.append_nil] at hbod
        refine draw_introS ordW11 (by decide +kernel) ?_
        refine ck_intro (ix_in hkn) ?_
        refine opt_intro (ix_get hg) ?_
        refine st_intro (n := (e : Int)) (by rw [← he]; exact u64_nat (by omega)) ?_
        refine st_intro (n := (m : Int)) (by rw [IntKind.wrap_u64, hm']; omega) ?_
        refine ck_intro (ix_in hkn) ?_
        refine opt_intro (ix_get hg) ?_
        refine ck_intro (nz ok.al1) ?_
        refine st_intro (n := (g : Int)) (by rw [← hmg]; rfl) ?_
        refine st_intro (n := (g : Int)) (i64_in _ (by omega)) ?_
        refine And.intro (fun j hj => by cases hj) ?_
        refine st_intro (n := ((e + g : Nat) : Int)) (by rw [← he, i64_in _ (by omega)]; omega) ?_
        refine st_intro (n := ((e + g : Nat) : Int)) (u64_nat (by omega)) ?_
        refine ck_intro (ix_in hkn) ?_
        refine opt_intro (ix_get hg) ?_
        conv => whnf
        refine ck_intro (ix_in hkn) ?_
        refine opt_intro (ix_get hdat) ?_

        refine br_intro (fun c => absurd (of_decide_eq_true c) (by rw [U_len]; omega)) (fun _ => ?_)

        refine st_intro (n := ((k + 1 : Nat) : Int)) (by rw [i64_in _ (by omega)]; omega) ?_
        conv => whnf
        refine ⟨⟨(k + 1, false), ?_⟩, weak_gc [0, 1, 2, 3, 4] rfl ⟨rfl, rfl, rfl, rfl, rfl, congrArg (fun n : Nat => some (AV.t (.int .i64 (n : Int)))) (he.symm.trans hend.symm), rfl, rfl, trivial⟩ ⟨rfl, congrArg (fun l => some (Blk.arr 60 8 true 0 (.ts l))) hset, rfl, rfl, rfl, trivial⟩, by show (hdsOf x).length - (k + 1) < (hdsOf x).length - k; omega⟩

        exact ⟨by simp only; omega, fun _ => hbod.trans (hf rfl), fun hh => by cases hh⟩
      · rw [if_neg hd0] at hend
        rw [if_neg hd0] at hbod
        have hne : U hd.d ≠ [] := fun e => hd0 (by rw [U_nil e]; rfl)
        by_cases hg0 : g = 0
        · refine draw_introS ordW11 (by decide +kernel) ?_
          refine ck_intro (ix_in hkn) ?_
          refine opt_intro (ix_get hg) ?_
          refine st_intro (n := (e : Int)) (by rw [← he]; exact u64_nat (by omega)) ?_
          refine st_intro (n := (m : Int)) (by rw [IntKind.wrap_u64, hm']; omega) ?_
          refine ck_intro (ix_in hkn) ?_
          refine opt_intro (ix_get hg) ?_
          refine ck_intro (nz ok.al1) ?_
          refine st_intro (n := (g : Int)) (by rw [← hmg]; rfl) ?_
          refine st_intro (n := (g : Int)) (i64_in _ (by omega)) ?_
          refine And.intro (fun j hj => by cases hj) ?_
          refine st_intro (n := ((e + g : Nat) : Int)) (by rw [← he, i64_in _ (by omega)]; omega) ?_
          refine st_intro (n := ((e + g : Nat) : Int)) (u64_nat (by omega)) ?_
          refine ck_intro (ix_in hkn) ?_
          refine opt_intro (ix_get hg) ?_
          conv => whnf
          refine ck_intro (ix_in hkn) ?_
          refine opt_intro (ix_get hdat) ?_

          refine br_intro (fun _ => ?_) (fun c => absurd (of_decide_eq_false c) (by rw [U_len]; omega))

          refine ck_intro (mkS_ok (by omega)) ?_
          refine br_intro (fun c => absurd (of_decide_eq_true c) (by omega)) (fun _ => ?_)
          refine CallS.mono (write_nothing x _ _ hg0) ?_
          rintro _ _ ⟨rfl, rfl⟩

          refine ck_intro (ix_in hkn) ?_
          refine opt_intro (ix_get hdat) ?_
          refine CallS.mono (write_calls (L := Tryd.lays180) (l := []) (p := U hd.d) rfl rfl rfl rfl .nil (srcH_vecd hne) (fun _ => by rw [U_len]; omega) (by simp only [List.length_append, List.length_replicate, U_len, List.length_nil]; omega)) ?_
          rintro _ _ ⟨rfl, rfl⟩
          refine ck_intro (ix_in hkn) ?_
          refine opt_intro (ix_get hdat) ?_
          refine st_intro (n := ((g + hd.d.length : Nat) : Int)) (by rw [U_len, i64_in _ (by omega)]; omega) ?_
          refine st_intro (n := ((e + (g + hd.d.length) : Nat) : Int)) (by rw [← he, i64_in _ (by omega)]; omega) ?_

          have hfin : U hd.d = U (bodyOf (at0 x) ((hdsOf x).take (k + 1))) := by rw [hbod, hf rfl, hg0]; rfl

          refine st_intro (n := ((k + 1 : Nat) : Int)) (by rw [i64_in _ (by omega)]; omega) ?_
          conv => whnf
          refine ⟨⟨(k + 1, true), ?_⟩, weak_gc [0, 1, 2, 3, 4, 6] rfl ⟨rfl, rfl, rfl, rfl, rfl, congrArg (fun n : Nat => some (AV.t (.int .i64 (n : Int)))) hend.symm, rfl, rfl, trivial⟩ ⟨rfl, congrArg (fun l => some (Blk.arr 60 8 true 0 (.ts l))) hset, rfl, congrArg (fun l : List T => some (Blk.box [.sl 5 0 0 l.length, .t (.int .i64 0), .t (.int .i8 0)])) hfin, rfl, congrArg (fun l => some (Blk.arr 5 1 false 0 (.ts l))) hfin, trivial⟩, by show (hdsOf x).length - (k + 1) < (hdsOf x).length - k; omega⟩

          exact ⟨by simp only; omega, (fun hh => by cases hh), fun _ => by intro e; rw [e] at hfin; exact hne hfin⟩
        · refine draw_introS ordW11 (by decide +kernel) ?_
          refine ck_intro (ix_in hkn) ?_
          refine opt_intro (ix_get hg) ?_
          refine st_intro (n := (e : Int)) (by rw [← he]; exact u64_nat (by omega)) ?_
          refine st_intro (n := (m : Int)) (by rw [IntKind.wrap_u64, hm']; omega) ?_
          refine ck_intro (ix_in hkn) ?_
          refine opt_intro (ix_get hg) ?_
          refine ck_intro (nz ok.al1) ?_
          refine st_intro (n := (g : Int)) (by rw [← hmg]; rfl) ?_
          refine st_intro (n := (g : Int)) (i64_in _ (by omega)) ?_
          refine And.intro (fun j hj => by cases hj) ?_
          refine st_intro (n := ((e + g : Nat) : Int)) (by rw [← he, i64_in _ (by omega)]; omega) ?_
          refine st_intro (n := ((e + g : Nat) : Int)) (u64_nat (by omega)) ?_
          refine ck_intro (ix_in hkn) ?_
          refine opt_intro (ix_get hg) ?_
          conv => whnf
          refine ck_intro (ix_in hkn) ?_
          refine opt_intro (ix_get hdat) ?_

          refine br_intro (fun _ => ?_) (fun c => absurd (of_decide_eq_false c) (by rw [U_len]; omega))

          refine ck_intro (mkS_ok (by omega)) ?_
          refine br_intro (fun c => absurd (of_decide_eq_true c) (by omega)) (fun _ => ?_)
          refine CallS.mono (write_calls (L := Tryd.lays180) (l := []) (p := List.replicate g (T.int .u8 0)) rfl rfl rfl rfl .nil (srcH_row rfl (by simp) (fun h => by cases h)) (fun _ => by simp; omega) (by simp only [List.length_append, List.length_replicate, U_len, List.length_nil]; omega)) ?_
          rintro _ _ ⟨rfl, rfl⟩
          refine ck_intro (ix_in hkn) ?_
          refine opt_intro (ix_get hdat) ?_
          refine CallS.mono (write_calls (L := Tryd.lays180) (l := List.replicate g (T.int .u8 0)) (p := U hd.d) rfl rfl rfl rfl (.row 6 2 _ rfl (by simp; omega)) (srcH_vecd hne) (fun h => by cases h) (by simp only [List.length_append, List.length_replicate, U_len, List.length_nil]; omega)) ?_
          rintro _ _ ⟨rfl, rfl⟩
          refine ck_intro (ix_in hkn) ?_
          refine opt_intro (ix_get hdat) ?_
          refine st_intro (n := ((g + hd.d.length : Nat) : Int)) (by rw [U_len, i64_in _ (by omega)]; omega) ?_
          refine st_intro (n := ((e + (g + hd.d.length) : Nat) : Int)) (by rw [← he, i64_in _ (by omega)]; omega) ?_

          have hfin : List.replicate g (T.int .u8 0) ++ U hd.d = U (bodyOf (at0 x) ((hdsOf x).take (k + 1))) := by rw [hbod, hf rfl, List.nil_append, U_app, U_rep]

          refine st_intro (n := ((k + 1 : Nat) : Int)) (by rw [i64_in _ (by omega)]; omega) ?_
          conv => whnf
          refine ⟨⟨(k + 1, true), ?_⟩, weak_gc [0, 1, 2, 3, 4, 6] rfl ⟨rfl, rfl, rfl, rfl, rfl, congrArg (fun n : Nat => some (AV.t (.int .i64 (n : Int)))) hend.symm, rfl, rfl, trivial⟩ ⟨rfl, congrArg (fun l => some (Blk.arr 60 8 true 0 (.ts l))) hset, rfl, congrArg (fun l : List T => some (Blk.box [.sl 5 0 0 l.length, .t (.int .i64 0), .t (.int .i8 0)])) hfin, rfl, congrArg (fun l => some (Blk.arr 5 1 false 0 (.ts l))) hfin, trivial⟩, by show (hdsOf x).length - (k + 1) < (hdsOf x).length - k; omega⟩

          exact ⟨by simp only; omega, (fun hh => by cases hh), fun _ => by intro e; rw [e] at hfin; exact hne (List.append_eq_nil_iff.1 hfin).2⟩
    · have hkn : k = (hdsOf x).length := by have := of_decide_eq_false c; omega

      refine br_intro (fun c => ?_) (fun c => ?_)
      · have hlt : 67108864 < endOf (at0 x) (hdsOf x) := by
          have := of_decide_eq_true c
          rw [hkn, List.take_length] at this; omega
        show Pack _ _ _
        rw [h1 hlt]
        exact ⟨⟨⟨rfl, rfl, rfl⟩, rfl, trivial⟩, rfl⟩
      · have hle : endOf (at0 x) (hdsOf x) ≤ 67108864 := by
          have := of_decide_eq_false c
          rw [hkn, List.take_length] at this; omega
        obtain ⟨M, hM'⟩ : ∃ M : Nat, M = x.m.toNat := ⟨_, rfl⟩
        obtain ⟨En, hEn⟩ : ∃ E : Nat, E = x.e.toNat := ⟨_, rfl⟩
        have q1 := h.m0; have q2 := h.m1; have q3 := h.e; have q4 := hb.eb
        refine CallS.mono (writeString_calls (L := Tryd.lays178) (l := []) rfl rfl rfl rfl .nil (fun _ => by simp) (by simp)) ?_
        rintro _ _ ⟨rfl, rfl⟩
        refine CallS.mono (write_calls (L := Tryd.lays180) (l := U [127, 69, 76, 70, 2, 1, 1]) (p := List.replicate 9 (T.int .u8 0)) rfl rfl rfl rfl (.row 5 2 _ rfl (by simp only [List.length_append, List.length_replicate, List.length_map, List.length_cons, List.length_nil, U_len, little_len]; omega)) (srcH_row rfl rfl (fun h => by cases h)) (fun h => by cases h) (by simp only [List.length_append, List.length_replicate, List.length_map, List.length_cons, List.length_nil, U_len, little_len]; omega)) ?_
        rintro _ _ ⟨rfl, rfl⟩
        refine st_intro (n := (M : Int)) (by rw [IntKind.wrap_u64]; omega) ?_
        refine st_intro (n := (En : Int)) (by rw [IntKind.wrap_u64]; omega) ?_
        refine st_intro (n := ((hdsOf x).length : Int)) (u64_nat (by omega)) ?_
        refine CallS.of_fn tabS_ok regS_ok Tryd.func27 rfl rfl ?_
        refine loop_un 13 ?_
        refine CallS.pure (append_nil_runs 2 2 (by omega)) rfl ?_
        refine CallS.mono (write_calls (L := Tryd.lays180) (l := (U [127, 69, 76, 70, 2, 1, 1] ++ List.replicate 9 (T.int .u8 0))) (p := U (little 2 2)) rfl rfl rfl rfl (.row 5 4 _ rfl (by simp only [List.length_append, List.length_replicate, List.length_map, List.length_cons, List.length_nil, U_len, little_len]; omega)) (srcH_row rfl rfl (fun _ => by simp only [List.length_append, List.length_replicate, List.length_map, List.length_cons, List.length_nil, U_len, little_len]; omega)) (fun h => by cases h) (by simp only [List.length_append, List.length_replicate, List.length_map, List.length_cons, List.length_nil, U_len, little_len]; omega)) ?_
        rintro _ _ ⟨rfl, rfl⟩
        refine CallS.pure (append_nil_runs 2 M (by omega)) rfl ?_
        refine CallS.mono (write_calls (L := Tryd.lays180) (l := ((U [127, 69, 76, 70, 2, 1, 1] ++ List.replicate 9 (T.int .u8 0)) ++ U (little 2 2))) (p := U (little 2 M)) rfl rfl rfl rfl (.row 5 6 _ rfl (by simp only [List.length_append, List.length_replicate, List.length_map, List.length_cons, List.length_nil, U_len, little_len]; omega)) (srcH_row rfl rfl (fun _ => by simp only [List.length_append, List.length_replicate, List.length_map, List.length_cons, List.length_nil, U_len, little_len]; omega)) (fun h => by cases h) (by simp only [List.length_append, List.length_replicate, List.length_map, List.length_cons, List.length_nil, U_len, little_len]; omega)) ?_
        rintro _ _ ⟨rfl, rfl⟩
        refine CallS.pure (append_nil_runs 4 1 (by omega)) rfl ?_
        refine CallS.mono (write_calls (L := Tryd.lays180) (l := (((U [127, 69, 76, 70, 2, 1, 1] ++ List.replicate 9 (T.int .u8 0)) ++ U (little 2 2)) ++ U (little 2 M))) (p := U (little 4 1)) rfl rfl rfl rfl (.row 5 8 _ rfl (by simp only [List.length_append, List.length_replicate, List.length_map, List.length_cons, List.length_nil, U_len, little_len]; omega)) (srcH_row rfl rfl (fun _ => by simp only [List.length_append, List.length_replicate, List.length_map, List.length_cons, List.length_nil, U_len, little_len]; omega)) (fun h => by cases h) (by simp only [List.length_append, List.length_replicate, List.length_map, List.length_cons, List.length_nil, U_len, little_len]; omega)) ?_
        rintro _ _ ⟨rfl, rfl⟩
        refine CallS.pure (append_nil_runs 8 En (by omega)) rfl ?_
        refine CallS.mono (write_calls (L := Tryd.lays180) (l := ((((U [127, 69, 76, 70, 2, 1, 1] ++ List.replicate 9 (T.int .u8 0)) ++ U (little 2 2)) ++ U (little 2 M)) ++ U (little 4 1))) (p := U (little 8 En)) rfl rfl rfl rfl (.row 5 10 _ rfl (by simp only [List.length_append, List.length_replicate, List.length_map, List.length_cons, List.length_nil, U_len, little_len]; omega)) (srcH_row rfl rfl (fun _ => by simp only [List.length_append, List.length_replicate, List.length_map, List.length_cons, List.length_nil, U_len, little_len]; omega)) (fun h => by cases h) (by simp only [List.length_append, List.length_replicate, List.length_map, List.length_cons, List.length_nil, U_len, little_len]; omega)) ?_
        rintro _ _ ⟨rfl, rfl⟩
        refine CallS.pure (append_nil_runs 8 64 (by omega)) rfl ?_
        refine CallS.mono (write_calls (L := Tryd.lays180) (l := (((((U [127, 69, 76, 70, 2, 1, 1] ++ List.replicate 9 (T.int .u8 0)) ++ U (little 2 2)) ++ U (little 2 M)) ++ U (little 4 1)) ++ U (little 8 En))) (p := U (little 8 64)) rfl rfl rfl rfl (.row 5 12 _ rfl (by simp only [List.length_append, List.length_replicate, List.length_map, List.length_cons, List.length_nil, U_len, little_len]; omega)) (srcH_row rfl rfl (fun _ => by simp only [List.length_append, List.length_replicate, List.length_map, List.length_cons, List.length_nil, U_len, little_len]; omega)) (fun h => by cases h) (by simp only [List.length_append, List.length_replicate, List.length_map, List.length_cons, List.length_nil, U_len, little_len]; omega)) ?_
        rintro _ _ ⟨rfl, rfl⟩
        refine CallS.pure (append_nil_runs 8 0 (by omega)) rfl ?_
        refine CallS.mono (write_calls (L := Tryd.lays180) (l := ((((((U [127, 69, 76, 70, 2, 1, 1] ++ List.replicate 9 (T.int .u8 0)) ++ U (little 2 2)) ++ U (little 2 M)) ++ U (little 4 1)) ++ U (little 8 En)) ++ U (little 8 64))) (p := U (little 8 0)) rfl rfl rfl rfl (.row 5 14 _ rfl (by simp only [List.length_append, List.length_replicate, List.length_map, List.length_cons, List.length_nil, U_len, little_len]; omega)) (srcH_row rfl rfl (fun _ => by simp only [List.length_append, List.length_replicate, List.length_map, List.length_cons, List.length_nil, U_len, little_len]; omega)) (fun h => by cases h) (by simp only [List.length_append, List.length_replicate, List.length_map, List.length_cons, List.length_nil, U_len, little_len]; omega)) ?_
        rintro _ _ ⟨rfl, rfl⟩
        refine CallS.pure (append_nil_runs 4 0 (by omega)) rfl ?_
        refine CallS.mono (write_calls (L := Tryd.lays180) (l := (((((((U [127, 69, 76, 70, 2, 1, 1] ++ List.replicate 9 (T.int .u8 0)) ++ U (little 2 2)) ++ U (little 2 M)) ++ U (little 4 1)) ++ U (little 8 En)) ++ U (little 8 64)) ++ U (little 8 0))) (p := U (little 4 0)) rfl rfl rfl rfl (.row 5 16 _ rfl (by simp only [List.length_append, List.length_replicate, List.length_map, List.length_cons, List.length_nil, U_len, little_len]; omega)) (srcH_row rfl rfl (fun _ => by simp only [List.length_append, List.length_replicate, List.length_map, List.length_cons, List.length_nil, U_len, little_len]; omega)) (fun h => by cases h) (by simp only [List.length_append, List.length_replicate, List.length_map, List.length_cons, List.length_nil, U_len, little_len]; omega)) ?_
        rintro _ _ ⟨rfl, rfl⟩
        refine CallS.pure (append_nil_runs 2 64 (by omega)) rfl ?_
        refine CallS.mono (write_calls (L := Tryd.lays180) (l := ((((((((U [127, 69, 76, 70, 2, 1, 1] ++ List.replicate 9 (T.int .u8 0)) ++ U (little 2 2)) ++ U (little 2 M)) ++ U (little 4 1)) ++ U (little 8 En)) ++ U (little 8 64)) ++ U (little 8 0)) ++ U (little 4 0))) (p := U (little 2 64)) rfl rfl rfl rfl (.row 5 18 _ rfl (by simp only [List.length_append, List.length_replicate, List.length_map, List.length_cons, List.length_nil, U_len, little_len]; omega)) (srcH_row rfl rfl (fun _ => by simp only [List.length_append, List.length_replicate, List.length_map, List.length_cons, List.length_nil, U_len, little_len]; omega)) (fun h => by cases h) (by simp only [List.length_append, List.length_replicate, List.length_map, List.length_cons, List.length_nil, U_len, little_len]; omega)) ?_
        rintro _ _ ⟨rfl, rfl⟩
        refine CallS.pure (append_nil_runs 2 56 (by omega)) rfl ?_
        refine CallS.mono (write_calls (L := Tryd.lays180) (l := (((((((((U [127, 69, 76, 70, 2, 1, 1] ++ List.replicate 9 (T.int .u8 0)) ++ U (little 2 2)) ++ U (little 2 M)) ++ U (little 4 1)) ++ U (little 8 En)) ++ U (little 8 64)) ++ U (little 8 0)) ++ U (little 4 0)) ++ U (little 2 64))) (p := U (little 2 56)) rfl rfl rfl rfl (.row 5 20 _ rfl (by simp only [List.length_append, List.length_replicate, List.length_map, List.length_cons, List.length_nil, U_len, little_len]; omega)) (srcH_row rfl rfl (fun _ => by simp only [List.length_append, List.length_replicate, List.length_map, List.length_cons, List.length_nil, U_len, little_len]; omega)) (fun h => by cases h) (by simp only [List.length_append, List.length_replicate, List.length_map, List.length_cons, List.length_nil, U_len, little_len]; omega)) ?_
        rintro _ _ ⟨rfl, rfl⟩
        refine CallS.pure (append_nil_runs 2 (hdsOf x).length (by omega)) rfl ?_
        refine CallS.mono (write_calls (L := Tryd.lays180) (l := ((((((((((U [127, 69, 76, 70, 2, 1, 1] ++ List.replicate 9 (T.int .u8 0)) ++ U (little 2 2)) ++ U (little 2 M)) ++ U (little 4 1)) ++ U (little 8 En)) ++ U (little 8 64)) ++ U (little 8 0)) ++ U (little 4 0)) ++ U (little 2 64)) ++ U (little 2 56))) (p := U (little 2 (hdsOf x).length)) rfl rfl rfl rfl (.row 5 22 _ rfl (by simp only [List.length_append, List.length_replicate, List.length_map, List.length_cons, List.length_nil, U_len, little_len]; omega)) (srcH_row rfl rfl (fun _ => by simp only [List.length_append, List.length_replicate, List.length_map, List.length_cons, List.length_nil, U_len, little_len]; omega)) (fun h => by cases h) (by simp only [List.length_append, List.length_replicate, List.length_map, List.length_cons, List.length_nil, U_len, little_len]; omega)) ?_
        rintro _ _ ⟨rfl, rfl⟩
        refine CallS.pure (append_nil_runs 6 0 (by omega)) rfl ?_
        refine CallS.mono (write_calls (L := Tryd.lays180) (l := (((((((((((U [127, 69, 76, 70, 2, 1, 1] ++ List.replicate 9 (T.int .u8 0)) ++ U (little 2 2)) ++ U (little 2 M)) ++ U (little 4 1)) ++ U (little 8 En)) ++ U (little 8 64)) ++ U (little 8 0)) ++ U (little 4 0)) ++ U (little 2 64)) ++ U (little 2 56)) ++ U (little 2 (hdsOf x).length))) (p := U (little 6 0)) rfl rfl rfl rfl (.row 5 24 _ rfl (by simp only [List.length_append, List.length_replicate, List.length_map, List.length_cons, List.length_nil, U_len, little_len]; omega)) (srcH_row rfl rfl (fun _ => by simp only [List.length_append, List.length_replicate, List.length_map, List.length_cons, List.length_nil, U_len, little_len]; omega)) (fun h => by cases h) (by simp only [List.length_append, List.length_replicate, List.length_map, List.length_cons, List.length_nil, U_len, little_len]; omega)) ?_
        rintro _ _ ⟨rfl, rfl⟩
        have htk : (hdsOf x).take k = hdsOf x := by rw [hkn, List.take_length]
        have hout : ((((((((((((U [127, 69, 76, 70, 2, 1, 1] ++ List.replicate 9 (T.int .u8 0)) ++ U (little 2 2)) ++ U (little 2 M)) ++ U (little 4 1)) ++ U (little 8 En)) ++ U (little 8 64)) ++ U (little 8 0)) ++ U (little 4 0)) ++ U (little 2 64)) ++ U (little 2 56)) ++ U (little 2 (hdsOf x).length)) ++ U (little 6 0)) = U (outK x 0) := by
          have e1 : outK x 0 = frontB x (hdsOf x).length := by simp [outK, hdsB]
          rw [e1, frontB, ← hM', ← hEn]
          simp only [U_app, ← U_rep]
        refine loop_on (fun j : Nat => j ≤ (hdsOf x).length) (wqF x) (fun j => (hdsOf x).length - j) 0 (Nat.zero_le _) ?_ (fun j hj => ?_)
        · exact weak_gc [0, 1, 2, 3, 4, 5] rfl ⟨rfl, rfl, rfl, rfl, rfl, rfl, trivial⟩ ⟨rfl, congrArg (fun n => some (Blk.arr 60 8 true 0 (.ts (rowK (at0 x) (hdsOf x) n)))) hkn, rfl, rfl, congrArg (fun l : List T => some (Blk.box [.sl 5 0 0 l.length, .t (.int .i64 0), .t (.int .i8 0)])) hout, congrArg (fun l => some (Blk.arr 5 1 false 0 (.ts l))) hout, trivial⟩
        refine br_intro (fun c => ?_) (fun c => ?_)
        · have hjn : j < (hdsOf x).length := by have := of_decide_eq_true c; omega
          obtain ⟨hd, hhd⟩ : ∃ hd, (hdsOf x)[j]? = some hd := ⟨_, List.getElem?_eq_getElem hjn⟩
          have ok := hok hd (List.mem_of_getElem? hhd)
          have o1 := ok.v; have o2 := ok.al1; have o3 := ok.al2; have o4 := ok.d; have o5 := ok.k; have o6 := ok.fl
          have hr := row_at (a := at0 x) hhd
          rw [← rowK_end] at hr
          have hsB := hdsB_succ (a := at0 x) hhd
          obtain ⟨o, ho⟩ : ∃ o, o = endOf (at0 x) ((hdsOf x).take j) + gapOf (endOf (at0 x) ((hdsOf x).take j)) hd := ⟨_, rfl⟩
          rw [← ho] at hr hsB
          have hlen : (outK x j).length = 64 + 56 * j := by
            simp only [outK, List.length_append, frontB_len]
            rw [hdsB_len _ _ (offsOf_len _ _), List.length_take, Nat.min_eq_left hj]
          refine ck_intro (ix_in hjn) ?_
          refine opt_intro (ix_get hr) ?_
          refine st_intro (n := (hd.k : Int)) (u64_nat (by omega)) ?_
          refine st_intro (n := (hd.fl : Int)) (u64_nat (by omega)) ?_
          refine CallS.of_fn tabS_ok regS_ok Tryd.func27 rfl rfl ?_
          refine loop_un 10 ?_
          refine CallS.pure (append_nil_runs 4 hd.k (by omega)) rfl ?_
          refine CallS.mono (write_calls (L := Tryd.lays180) (l := U (outK x j)) (p := U (little 4 hd.k)) rfl rfl rfl rfl (.row 5 0 _ rfl (by simp only [List.length_append, List.length_replicate, List.length_map, List.length_cons, List.length_nil, U_len, little_len, hlen]; omega)) (srcH_row rfl rfl (fun _ => by simp only [List.length_append, List.length_replicate, List.length_map, List.length_cons, List.length_nil, U_len, little_len, hlen]; omega)) (fun h => by cases h) (by simp only [List.length_append, List.length_replicate, List.length_map, List.length_cons, List.length_nil, U_len, little_len, hlen]; omega)) ?_
          rintro _ _ ⟨rfl, rfl⟩
          refine CallS.pure (append_nil_runs 4 hd.fl (by omega)) rfl ?_
          refine CallS.mono (write_calls (L := Tryd.lays180) (l := (U (outK x j) ++ U (little 4 hd.k))) (p := U (little 4 hd.fl)) rfl rfl rfl rfl (.row 5 2 _ rfl (by simp only [List.length_append, List.length_replicate, List.length_map, List.length_cons, List.length_nil, U_len, little_len, hlen]; omega)) (srcH_row rfl rfl (fun _ => by simp only [List.length_append, List.length_replicate, List.length_map, List.length_cons, List.length_nil, U_len, little_len, hlen]; omega)) (fun h => by cases h) (by simp only [List.length_append, List.length_replicate, List.length_map, List.length_cons, List.length_nil, U_len, little_len, hlen]; omega)) ?_
          rintro _ _ ⟨rfl, rfl⟩
          refine CallS.pure (append_nil_runs 8 o (by omega)) rfl ?_
          refine CallS.mono (write_calls (L := Tryd.lays180) (l := ((U (outK x j) ++ U (little 4 hd.k)) ++ U (little 4 hd.fl))) (p := U (little 8 o)) rfl rfl rfl rfl (.row 5 4 _ rfl (by simp only [List.length_append, List.length_replicate, List.length_map, List.length_cons, List.length_nil, U_len, little_len, hlen]; omega)) (srcH_row rfl rfl (fun _ => by simp only [List.length_append, List.length_replicate, List.length_map, List.length_cons, List.length_nil, U_len, little_len, hlen]; omega)) (fun h => by cases h) (by simp only [List.length_append, List.length_replicate, List.length_map, List.length_cons, List.length_nil, U_len, little_len, hlen]; omega)) ?_
          rintro _ _ ⟨rfl, rfl⟩
          refine CallS.pure (append_nil_runs 8 hd.v (by omega)) rfl ?_
          refine CallS.mono (write_calls (L := Tryd.lays180) (l := (((U (outK x j) ++ U (little 4 hd.k)) ++ U (little 4 hd.fl)) ++ U (little 8 o))) (p := U (little 8 hd.v)) rfl rfl rfl rfl (.row 5 6 _ rfl (by simp only [List.length_append, List.length_replicate, List.length_map, List.length_cons, List.length_nil, U_len, little_len, hlen]; omega)) (srcH_row rfl rfl (fun _ => by simp only [List.length_append, List.length_replicate, List.length_map, List.length_cons, List.length_nil, U_len, little_len, hlen]; omega)) (fun h => by cases h) (by simp only [List.length_append, List.length_replicate, List.length_map, List.length_cons, List.length_nil, U_len, little_len, hlen]; omega)) ?_
          rintro _ _ ⟨rfl, rfl⟩
          refine CallS.pure (append_nil_runs 8 hd.v (by omega)) rfl ?_
          refine CallS.mono (write_calls (L := Tryd.lays180) (l := ((((U (outK x j) ++ U (little 4 hd.k)) ++ U (little 4 hd.fl)) ++ U (little 8 o)) ++ U (little 8 hd.v))) (p := U (little 8 hd.v)) rfl rfl rfl rfl (.row 5 8 _ rfl (by simp only [List.length_append, List.length_replicate, List.length_map, List.length_cons, List.length_nil, U_len, little_len, hlen]; omega)) (srcH_row rfl rfl (fun _ => by simp only [List.length_append, List.length_replicate, List.length_map, List.length_cons, List.length_nil, U_len, little_len, hlen]; omega)) (fun h => by cases h) (by simp only [List.length_append, List.length_replicate, List.length_map, List.length_cons, List.length_nil, U_len, little_len, hlen]; omega)) ?_
          rintro _ _ ⟨rfl, rfl⟩
          refine CallS.pure (append_nil_runs 8 hd.d.length (by omega)) rfl ?_
          refine CallS.mono (write_calls (L := Tryd.lays180) (l := (((((U (outK x j) ++ U (little 4 hd.k)) ++ U (little 4 hd.fl)) ++ U (little 8 o)) ++ U (little 8 hd.v)) ++ U (little 8 hd.v))) (p := U (little 8 hd.d.length)) rfl rfl rfl rfl (.row 5 10 _ rfl (by simp only [List.length_append, List.length_replicate, List.length_map, List.length_cons, List.length_nil, U_len, little_len, hlen]; omega)) (srcH_row rfl rfl (fun _ => by simp only [List.length_append, List.length_replicate, List.length_map, List.length_cons, List.length_nil, U_len, little_len, hlen]; omega)) (fun h => by cases h) (by simp only [List.length_append, List.length_replicate, List.length_map, List.length_cons, List.length_nil, U_len, little_len, hlen]; omega)) ?_
          rintro _ _ ⟨rfl, rfl⟩
          refine CallS.pure (append_nil_runs 8 hd.sz (by omega)) rfl ?_
          refine CallS.mono (write_calls (L := Tryd.lays180) (l := ((((((U (outK x j) ++ U (little 4 hd.k)) ++ U (little 4 hd.fl)) ++ U (little 8 o)) ++ U (little 8 hd.v)) ++ U (little 8 hd.v)) ++ U (little 8 hd.d.length))) (p := U (little 8 hd.sz)) rfl rfl rfl rfl (.row 5 12 _ rfl (by simp only [List.length_append, List.length_replicate, List.length_map, List.length_cons, List.length_nil, U_len, little_len, hlen]; omega)) (srcH_row rfl rfl (fun _ => by simp only [List.length_append, List.length_replicate, List.length_map, List.length_cons, List.length_nil, U_len, little_len, hlen]; omega)) (fun h => by cases h) (by simp only [List.length_append, List.length_replicate, List.length_map, List.length_cons, List.length_nil, U_len, little_len, hlen]; omega)) ?_
          rintro _ _ ⟨rfl, rfl⟩
          refine CallS.pure (append_nil_runs 8 hd.al (by omega)) rfl ?_
          refine CallS.mono (write_calls (L := Tryd.lays180) (l := (((((((U (outK x j) ++ U (little 4 hd.k)) ++ U (little 4 hd.fl)) ++ U (little 8 o)) ++ U (little 8 hd.v)) ++ U (little 8 hd.v)) ++ U (little 8 hd.d.length)) ++ U (little 8 hd.sz))) (p := U (little 8 hd.al)) rfl rfl rfl rfl (.row 5 14 _ rfl (by simp only [List.length_append, List.length_replicate, List.length_map, List.length_cons, List.length_nil, U_len, little_len, hlen]; omega)) (srcH_row rfl rfl (fun _ => by simp only [List.length_append, List.length_replicate, List.length_map, List.length_cons, List.length_nil, U_len, little_len, hlen]; omega)) (fun h => by cases h) (by simp only [List.length_append, List.length_replicate, List.length_map, List.length_cons, List.length_nil, U_len, little_len, hlen]; omega)) ?_
          rintro _ _ ⟨rfl, rfl⟩
          have hfin : ((((((((U (outK x j) ++ U (little 4 hd.k)) ++ U (little 4 hd.fl)) ++ U (little 8 o)) ++ U (little 8 hd.v)) ++ U (little 8 hd.v)) ++ U (little 8 hd.d.length)) ++ U (little 8 hd.sz)) ++ U (little 8 hd.al)) = U (outK x (j + 1)) := by
            have e1 : outK x (j + 1) = outK x j ++ hdB hd o := by rw [outK, hsB, ← List.append_assoc]; rfl
            rw [e1, hdB]
            simp only [U_app, List.append_assoc]
          refine st_intro (n := ((j + 1 : Nat) : Int)) (by rw [i64_in _ (by omega)]; omega) ?_
          conv => whnf
          refine ⟨⟨j + 1, ?_⟩, weak_gc [0, 1, 2, 3, 4, 5] rfl ⟨rfl, rfl, rfl, rfl, rfl, rfl, trivial⟩ ⟨rfl, rfl, rfl, rfl, congrArg (fun l : List T => some (Blk.box [.sl 5 0 0 l.length, .t (.int .i64 0), .t (.int .i8 0)])) hfin, congrArg (fun l => some (Blk.arr 5 1 false 0 (.ts l))) hfin, trivial⟩, by show (hdsOf x).length - (j + 1) < (hdsOf x).length - j; omega⟩
          omega
        · have hjn : j = (hdsOf x).length := by have := of_decide_eq_false c; omega
          have hlen : (outK x j).length = 64 + 56 * j := by
            simp only [outK, List.length_append, frontB_len]
            rw [hdsB_len _ _ (offsOf_len _ _), List.length_take, Nat.min_eq_left hj]
          rw [htk] at hbo
          refine CallS.of_fn tabS_ok regS_ok Tryd.func28 rfl rfl ?_
          refine draw_introS ordBy (by decide +kernel) ?_
          refine And.intro (fun j hj => by cases hj) ?_
          refine CallS.mono (write_nilrow_calls (L := Tryd.lays180) (l := U (outK x j)) rfl rfl rfl rfl (.row 5 0 _ rfl (by rw [U_len, hlen]; omega)) (fun h => by cases h) rfl) ?_
          rintro _ _ ⟨rfl, rfl⟩
          refine CallS.of_fn tabS_ok regS_ok Tryd.func28 rfl rfl ?_
          refine draw_introS ordBy (by decide +kernel) ?_
          refine And.intro (fun j hj => by cases hj) ?_
          have hfile : U (outK x j) ++ [] = U (fileL x) := by
            rw [fileL, outK, hjn, List.take_length]
            have hb0 := hf rfl; rw [htk] at hb0; show _ = U (_ ++ bodyOf (at0 x) (hdsOf x)); rw [hb0, List.append_nil, List.append_nil]; rfl
          show Pack _ _ _
          rw [h2 hle]
          exact ⟨⟨⟨congrArg (fun l => some (Blk.arr 5 1 false 2 (.ts l))) hfile, rfl, (Nat.sub_zero _).trans (congrArg List.length hfile)⟩, rfl, trivial⟩, rfl⟩
  | true =>
    refine br_intro (fun c => ?_) (fun c => ?_)
    · have hkn : k < (hdsOf x).length := by have := of_decide_eq_true c; omega
      obtain ⟨hd, hhd⟩ : ∃ hd, (hdsOf x)[k]? = some hd := ⟨_, List.getElem?_eq_getElem hkn⟩
      have ok := hok hd (List.mem_of_getElem? hhd)
      have o1 := ok.v; have o2 := ok.al1; have o3 := ok.al2; have o4 := ok.d
      have hg := rowK_get (a := at0 x) hhd
      have hdat : ((hdsOf x).map datH)[k]? = some (datH hd) := by rw [List.getElem?_map, hhd]; rfl
      have hend := endOf_succ (at0 x) hhd
      have hbod := bodyOf_succ (at0 x) hhd
      have hgl := gap_lt ok (endOf (at0 x) ((hdsOf x).take k))
      have hset0 := rowK_set (a := at0 x) hhd
      obtain ⟨e, he⟩ : ∃ e, e = endOf (at0 x) ((hdsOf x).take k) := ⟨_, rfl⟩
      rw [← he] at hat hend hbod hgl hset0
      obtain ⟨g, hg'⟩ : ∃ g, g = gapOf e hd := ⟨_, rfl⟩
      rw [← hg'] at hbod hgl hset0
      rw [stepAt, ← hg'] at hend
      obtain ⟨m, hm'⟩ : ∃ m, m = (hd.v + 18446744073709551616 - e) % 18446744073709551616 := ⟨_, rfl⟩
      have hmg : m % hd.al = g := by rw [hm', hg']; rfl
      have hset : (rowK (at0 x) (hdsOf x) k).set (0 + ((k : Nat) : Int).toNat) (setCells (hdrT hd 0) 2 [T.int .u64 ((e + g : Nat) : Int)]) = rowK (at0 x) (hdsOf x) (k + 1) := by rw [Int.toNat_natCast, Nat.zero_add]; exact hset0
      by_cases hd0 : hd.d.length = 0
      · rw [if_pos hd0] at hend
        rw [if_pos hd0, List.append_nil] at hbod
        refine draw_introS ordW11 (by decide +kernel) ?_
        refine ck_intro (ix_in hkn) ?_
        refine opt_intro (ix_get hg) ?_
        refine st_intro (n := (e : Int)) (by rw [← he]; exact u64_nat (by omega)) ?_
        refine st_intro (n := (m : Int)) (by rw [IntKind.wrap_u64, hm']; omega) ?_
        refine ck_intro (ix_in hkn) ?_
        refine opt_intro (ix_get hg) ?_
        refine ck_intro (nz ok.al1) ?_
        refine st_intro (n := (g : Int)) (by rw [← hmg]; rfl) ?_
        refine st_intro (n := (g : Int)) (i64_in _ (by omega)) ?_
        refine And.intro (fun j hj => by cases hj) ?_
        refine st_intro (n := ((e + g : Nat) : Int)) (by rw [← he, i64_in _ (by omega)]; omega) ?_
        refine st_intro (n := ((e + g : Nat) : Int)) (u64_nat (by omega)) ?_
        refine ck_intro (ix_in hkn) ?_
        refine opt_intro (ix_get hg) ?_
        conv => whnf
        refine ck_intro (ix_in hkn) ?_
        refine opt_intro (ix_get hdat) ?_

        refine br_intro (fun c => absurd (of_decide_eq_true c) (by rw [U_len]; omega)) (fun _ => ?_)

        refine st_intro (n := ((k + 1 : Nat) : Int)) (by rw [i64_in _ (by omega)]; omega) ?_
        conv => whnf
        refine ⟨⟨(k + 1, true), ?_⟩, weak_gc [0, 1, 2, 3, 4, 5] rfl ⟨rfl, rfl, rfl, rfl, rfl, congrArg (fun n : Nat => some (AV.t (.int .i64 (n : Int)))) (he.symm.trans hend.symm), rfl, rfl, trivial⟩ ⟨rfl, congrArg (fun l => some (Blk.arr 60 8 true 0 (.ts l))) hset, rfl, congrArg (fun l : List T => some (Blk.box [.sl 5 0 0 l.length, .t (.int .i64 0), .t (.int .i8 0)])) (congrArg U hbod.symm), rfl, congrArg (fun l => some (Blk.arr 5 1 false 0 (.ts l))) (congrArg U hbod.symm), trivial⟩, by show (hdsOf x).length - (k + 1) < (hdsOf x).length - k; omega⟩

        exact ⟨by simp only; omega, (fun hh => by cases hh), fun _ => by exact hbod ▸ ht rfl⟩
      · rw [if_neg hd0] at hend
        rw [if_neg hd0] at hbod
        have hne : U hd.d ≠ [] := fun e => hd0 (by rw [U_nil e]; rfl)
        have hbne : U (bodyOf (at0 x) ((hdsOf x).take k)) ≠ [] := fun e => ht rfl (U_nil e)
        have hb1 := List.length_pos_iff.2 hbne

        refine draw_introS ordW11 (by decide +kernel) ?_
        refine ck_intro (ix_in hkn) ?_
        refine opt_intro (ix_get hg) ?_
        refine st_intro (n := (e : Int)) (by rw [← he]; exact u64_nat (by omega)) ?_
        refine st_intro (n := (m : Int)) (by rw [IntKind.wrap_u64, hm']; omega) ?_
        refine ck_intro (ix_in hkn) ?_
        refine opt_intro (ix_get hg) ?_
        refine ck_intro (nz ok.al1) ?_
        refine st_intro (n := (g : Int)) (by rw [← hmg]; rfl) ?_
        refine st_intro (n := (g : Int)) (i64_in _ (by omega)) ?_
        refine And.intro (fun j hj => by cases hj) ?_
        refine st_intro (n := ((e + g : Nat) : Int)) (by rw [← he, i64_in _ (by omega)]; omega) ?_
        refine st_intro (n := ((e + g : Nat) : Int)) (u64_nat (by omega)) ?_
        refine ck_intro (ix_in hkn) ?_
        refine opt_intro (ix_get hg) ?_
        conv => whnf
        refine ck_intro (ix_in hkn) ?_
        refine opt_intro (ix_get hdat) ?_

        refine br_intro (fun _ => ?_) (fun c => absurd (of_decide_eq_false c) (by rw [U_len]; omega))

        refine ck_intro (mkS_ok (by omega)) ?_
        refine br_intro (fun c => absurd (of_decide_eq_true c) (by omega)) (fun _ => ?_)
        refine CallS.mono (write_calls (L := Tryd.lays180) (l := U (bodyOf (at0 x) ((hdsOf x).take k))) (p := List.replicate g (T.int .u8 0)) rfl rfl rfl rfl (.row 5 0 _ rfl hb1) (srcH_row rfl (by simp) (fun h => by cases h)) (fun h => by cases h) (by simp only [List.length_append, List.length_replicate, U_len, List.length_nil]; omega)) ?_
        rintro _ _ ⟨rfl, rfl⟩
        refine ck_intro (ix_in hkn) ?_
        refine opt_intro (ix_get hdat) ?_
        refine CallS.mono (write_calls (L := Tryd.lays180) (l := U (bodyOf (at0 x) ((hdsOf x).take k)) ++ List.replicate g (T.int .u8 0)) (p := U hd.d) rfl rfl rfl rfl (.row 5 2 _ rfl (by simp only [List.length_append]; omega)) (srcH_vecd hne) (fun h => by cases h) (by simp only [List.length_append, List.length_replicate, U_len, List.length_nil]; omega)) ?_
        rintro _ _ ⟨rfl, rfl⟩
        refine ck_intro (ix_in hkn) ?_
        refine opt_intro (ix_get hdat) ?_
        refine st_intro (n := ((g + hd.d.length : Nat) : Int)) (by rw [U_len, i64_in _ (by omega)]; omega) ?_
        refine st_intro (n := ((e + (g + hd.d.length) : Nat) : Int)) (by rw [← he, i64_in _ (by omega)]; omega) ?_

        have hfin : U (bodyOf (at0 x) ((hdsOf x).take k)) ++ List.replicate g (T.int .u8 0) ++ U hd.d = U (bodyOf (at0 x) ((hdsOf x).take (k + 1))) := by rw [hbod, U_app, U_app, U_rep, List.append_assoc]

        refine st_intro (n := ((k + 1 : Nat) : Int)) (by rw [i64_in _ (by omega)]; omega) ?_
        conv => whnf
        refine ⟨⟨(k + 1, true), ?_⟩, weak_gc [0, 1, 2, 3, 4, 5] rfl ⟨rfl, rfl, rfl, rfl, rfl, congrArg (fun n : Nat => some (AV.t (.int .i64 (n : Int)))) hend.symm, rfl, rfl, trivial⟩ ⟨rfl, congrArg (fun l => some (Blk.arr 60 8 true 0 (.ts l))) hset, rfl, congrArg (fun l : List T => some (Blk.box [.sl 5 0 0 l.length, .t (.int .i64 0), .t (.int .i8 0)])) hfin, rfl, congrArg (fun l => some (Blk.arr 5 1 false 0 (.ts l))) hfin, trivial⟩, by show (hdsOf x).length - (k + 1) < (hdsOf x).length - k; omega⟩

        exact ⟨by simp only; omega, (fun hh => by cases hh), fun _ => by intro e; rw [e] at hfin; exact hne (List.append_eq_nil_iff.1 hfin).2⟩
    · have hkn : k = (hdsOf x).length := by have := of_decide_eq_false c; omega

      refine br_intro (fun c => ?_) (fun c => ?_)
      · have hlt : 67108864 < endOf (at0 x) (hdsOf x) := by
          have := of_decide_eq_true c
          rw [hkn, List.take_length] at this; omega
        show Pack _ _ _
        rw [h1 hlt]
        exact ⟨⟨⟨rfl, rfl, rfl⟩, rfl, trivial⟩, rfl⟩
      · have hle : endOf (at0 x) (hdsOf x) ≤ 67108864 := by
          have := of_decide_eq_false c
          rw [hkn, List.take_length] at this; omega
        obtain ⟨M, hM'⟩ : ∃ M : Nat, M = x.m.toNat := ⟨_, rfl⟩
        obtain ⟨En, hEn⟩ : ∃ E : Nat, E = x.e.toNat := ⟨_, rfl⟩
        have q1 := h.m0; have q2 := h.m1; have q3 := h.e; have q4 := hb.eb
        refine CallS.mono (writeString_calls (L := Tryd.lays178) (l := []) rfl rfl rfl rfl .nil (fun _ => by simp) (by simp)) ?_
        rintro _ _ ⟨rfl, rfl⟩
        refine CallS.mono (write_calls (L := Tryd.lays180) (l := U [127, 69, 76, 70, 2, 1, 1]) (p := List.replicate 9 (T.int .u8 0)) rfl rfl rfl rfl (.row 6 2 _ rfl (by simp only [List.length_append, List.length_replicate, List.length_map, List.length_cons, List.length_nil, U_len, little_len]; omega)) (srcH_row rfl rfl (fun h => by cases h)) (fun h => by cases h) (by simp only [List.length_append, List.length_replicate, List.length_map, List.length_cons, List.length_nil, U_len, little_len]; omega)) ?_
        rintro _ _ ⟨rfl, rfl⟩
        refine st_intro (n := (M : Int)) (by rw [IntKind.wrap_u64]; omega) ?_
        refine st_intro (n := (En : Int)) (by rw [IntKind.wrap_u64]; omega) ?_
        refine st_intro (n := ((hdsOf x).length : Int)) (u64_nat (by omega)) ?_
        refine CallS.of_fn tabS_ok regS_ok Tryd.func27 rfl rfl ?_
        refine loop_un 13 ?_
        refine CallS.pure (append_nil_runs 2 2 (by omega)) rfl ?_
        refine CallS.mono (write_calls (L := Tryd.lays180) (l := (U [127, 69, 76, 70, 2, 1, 1] ++ List.replicate 9 (T.int .u8 0))) (p := U (little 2 2)) rfl rfl rfl rfl (.row 6 4 _ rfl (by simp only [List.length_append, List.length_replicate, List.length_map, List.length_cons, List.length_nil, U_len, little_len]; omega)) (srcH_row rfl rfl (fun _ => by simp only [List.length_append, List.length_replicate, List.length_map, List.length_cons, List.length_nil, U_len, little_len]; omega)) (fun h => by cases h) (by simp only [List.length_append, List.length_replicate, List.length_map, List.length_cons, List.length_nil, U_len, little_len]; omega)) ?_
        rintro _ _ ⟨rfl, rfl⟩
        refine CallS.pure (append_nil_runs 2 M (by omega)) rfl ?_
        refine CallS.mono (write_calls (L := Tryd.lays180) (l := ((U [127, 69, 76, 70, 2, 1, 1] ++ List.replicate 9 (T.int .u8 0)) ++ U (little 2 2))) (p := U (little 2 M)) rfl rfl rfl rfl (.row 6 6 _ rfl (by simp only [List.length_append, List.length_replicate, List.length_map, List.length_cons, List.length_nil, U_len, little_len]; omega)) (srcH_row rfl rfl (fun _ => by simp only [List.length_append, List.length_replicate, List.length_map, List.length_cons, List.length_nil, U_len, little_len]; omega)) (fun h => by cases h) (by simp only [List.length_append, List.length_replicate, List.length_map, List.length_cons, List.length_nil, U_len, little_len]; omega)) ?_
        rintro _ _ ⟨rfl, rfl⟩
        refine CallS.pure (append_nil_runs 4 1 (by omega)) rfl ?_
        refine CallS.mono (write_calls (L := Tryd.lays180) (l := (((U [127, 69, 76, 70, 2, 1, 1] ++ List.replicate 9 (T.int .u8 0)) ++ U (little 2 2)) ++ U (little 2 M))) (p := U (little 4 1)) rfl rfl rfl rfl (.row 6 8 _ rfl (by simp only [List.length_append, List.length_replicate, List.length_map, List.length_cons, List.length_nil, U_len, little_len]; omega)) (srcH_row rfl rfl (fun _ => by simp only [List.length_append, List.length_replicate, List.length_map, List.length_cons, List.length_nil, U_len, little_len]; omega)) (fun h => by cases h) (by simp only [List.length_append, List.length_replicate, List.length_map, List.length_cons, List.length_nil, U_len, little_len]; omega)) ?_
        rintro _ _ ⟨rfl, rfl⟩
        refine CallS.pure (append_nil_runs 8 En (by omega)) rfl ?_
        refine CallS.mono (write_calls (L := Tryd.lays180) (l := ((((U [127, 69, 76, 70, 2, 1, 1] ++ List.replicate 9 (T.int .u8 0)) ++ U (little 2 2)) ++ U (little 2 M)) ++ U (little 4 1))) (p := U (little 8 En)) rfl rfl rfl rfl (.row 6 10 _ rfl (by simp only [List.length_append, List.length_replicate, List.length_map, List.length_cons, List.length_nil, U_len, little_len]; omega)) (srcH_row rfl rfl (fun _ => by simp only [List.length_append, List.length_replicate, List.length_map, List.length_cons, List.length_nil, U_len, little_len]; omega)) (fun h => by cases h) (by simp only [List.length_append, List.length_replicate, List.length_map, List.length_cons, List.length_nil, U_len, little_len]; omega)) ?_
        rintro _ _ ⟨rfl, rfl⟩
        refine CallS.pure (append_nil_runs 8 64 (by omega)) rfl ?_
        refine CallS.mono (write_calls (L := Tryd.lays180) (l := (((((U [127, 69, 76, 70, 2, 1, 1] ++ List.replicate 9 (T.int .u8 0)) ++ U (little 2 2)) ++ U (little 2 M)) ++ U (little 4 1)) ++ U (little 8 En))) (p := U (little 8 64)) rfl rfl rfl rfl (.row 6 12 _ rfl (by simp only [List.length_append, List.length_replicate, List.length_map, List.length_cons, List.length_nil, U_len, little_len]; omega)) (srcH_row rfl rfl (fun _ => by simp only [List.length_append, List.length_replicate, List.length_map, List.length_cons, List.length_nil, U_len, little_len]; omega)) (fun h => by cases h) (by simp only [List.length_append, List.length_replicate, List.length_map, List.length_cons, List.length_nil, U_len, little_len]; omega)) ?_
        rintro _ _ ⟨rfl, rfl⟩
        refine CallS.pure (append_nil_runs 8 0 (by omega)) rfl ?_
        refine CallS.mono (write_calls (L := Tryd.lays180) (l := ((((((U [127, 69, 76, 70, 2, 1, 1] ++ List.replicate 9 (T.int .u8 0)) ++ U (little 2 2)) ++ U (little 2 M)) ++ U (little 4 1)) ++ U (little 8 En)) ++ U (little 8 64))) (p := U (little 8 0)) rfl rfl rfl rfl (.row 6 14 _ rfl (by simp only [List.length_append, List.length_replicate, List.length_map, List.length_cons, List.length_nil, U_len, little_len]; omega)) (srcH_row rfl rfl (fun _ => by simp only [List.length_append, List.length_replicate, List.length_map, List.length_cons, List.length_nil, U_len, little_len]; omega)) (fun h => by cases h) (by simp only [List.length_append, List.length_replicate, List.length_map, List.length_cons, List.length_nil, U_len, little_len]; omega)) ?_
        rintro _ _ ⟨rfl, rfl⟩
        refine CallS.pure (append_nil_runs 4 0 (by omega)) rfl ?_
        refine CallS.mono (write_calls (L := Tryd.lays180) (l := (((((((U [127, 69, 76, 70, 2, 1, 1] ++ List.replicate 9 (T.int .u8 0)) ++ U (little 2 2)) ++ U (little 2 M)) ++ U (little 4 1)) ++ U (little 8 En)) ++ U (little 8 64)) ++ U (little 8 0))) (p := U (little 4 0)) rfl rfl rfl rfl (.row 6 16 _ rfl (by simp only [List.length_append, List.length_replicate, List.length_map, List.length_cons, List.length_nil, U_len, little_len]; omega)) (srcH_row rfl rfl (fun _ => by simp only [List.length_append, List.length_replicate, List.length_map, List.length_cons, List.length_nil, U_len, little_len]; omega)) (fun h => by cases h) (by simp only [List.length_append, List.length_replicate, List.length_map, List.length_cons, List.length_nil, U_len, little_len]; omega)) ?_
        rintro _ _ ⟨rfl, rfl⟩
        refine CallS.pure (append_nil_runs 2 64 (by omega)) rfl ?_
        refine CallS.mono (write_calls (L := Tryd.lays180) (l := ((((((((U [127, 69, 76, 70, 2, 1, 1] ++ List.replicate 9 (T.int .u8 0)) ++ U (little 2 2)) ++ U (little 2 M)) ++ U (little 4 1)) ++ U (little 8 En)) ++ U (little 8 64)) ++ U (little 8 0)) ++ U (little 4 0))) (p := U (little 2 64)) rfl rfl rfl rfl (.row 6 18 _ rfl (by simp only [List.length_append, List.length_replicate, List.length_map, List.length_cons, List.length_nil, U_len, little_len]; omega)) (srcH_row rfl rfl (fun _ => by simp only [List.length_append, List.length_replicate, List.length_map, List.length_cons, List.length_nil, U_len, little_len]; omega)) (fun h => by cases h) (by simp only [List.length_append, List.length_replicate, List.length_map, List.length_cons, List.length_nil, U_len, little_len]; omega)) ?_
        rintro _ _ ⟨rfl, rfl⟩
        refine CallS.pure (append_nil_runs 2 56 (by omega)) rfl ?_
        refine CallS.mono (write_calls (L := Tryd.lays180) (l := (((((((((U [127, 69, 76, 70, 2, 1, 1] ++ List.replicate 9 (T.int .u8 0)) ++ U (little 2 2)) ++ U (little 2 M)) ++ U (little 4 1)) ++ U (little 8 En)) ++ U (little 8 64)) ++ U (little 8 0)) ++ U (little 4 0)) ++ U (little 2 64))) (p := U (little 2 56)) rfl rfl rfl rfl (.row 6 20 _ rfl (by simp only [List.length_append, List.length_replicate, List.length_map, List.length_cons, List.length_nil, U_len, little_len]; omega)) (srcH_row rfl rfl (fun _ => by simp only [List.length_append, List.length_replicate, List.length_map, List.length_cons, List.length_nil, U_len, little_len]; omega)) (fun h => by cases h) (by simp only [List.length_append, List.length_replicate, List.length_map, List.length_cons, List.length_nil, U_len, little_len]; omega)) ?_
        rintro _ _ ⟨rfl, rfl⟩
        refine CallS.pure (append_nil_runs 2 (hdsOf x).length (by omega)) rfl ?_
        refine CallS.mono (write_calls (L := Tryd.lays180) (l := ((((((((((U [127, 69, 76, 70, 2, 1, 1] ++ List.replicate 9 (T.int .u8 0)) ++ U (little 2 2)) ++ U (little 2 M)) ++ U (little 4 1)) ++ U (little 8 En)) ++ U (little 8 64)) ++ U (little 8 0)) ++ U (little 4 0)) ++ U (little 2 64)) ++ U (little 2 56))) (p := U (little 2 (hdsOf x).length)) rfl rfl rfl rfl (.row 6 22 _ rfl (by simp only [List.length_append, List.length_replicate, List.length_map, List.length_cons, List.length_nil, U_len, little_len]; omega)) (srcH_row rfl rfl (fun _ => by simp only [List.length_append, List.length_replicate, List.length_map, List.length_cons, List.length_nil, U_len, little_len]; omega)) (fun h => by cases h) (by simp only [List.length_append, List.length_replicate, List.length_map, List.length_cons, List.length_nil, U_len, little_len]; omega)) ?_
        rintro _ _ ⟨rfl, rfl⟩
        refine CallS.pure (append_nil_runs 6 0 (by omega)) rfl ?_
        refine CallS.mono (write_calls (L := Tryd.lays180) (l := (((((((((((U [127, 69, 76, 70, 2, 1, 1] ++ List.replicate 9 (T.int .u8 0)) ++ U (little 2 2)) ++ U (little 2 M)) ++ U (little 4 1)) ++ U (little 8 En)) ++ U (little 8 64)) ++ U (little 8 0)) ++ U (little 4 0)) ++ U (little 2 64)) ++ U (little 2 56)) ++ U (little 2 (hdsOf x).length))) (p := U (little 6 0)) rfl rfl rfl rfl (.row 6 24 _ rfl (by simp only [List.length_append, List.length_replicate, List.length_map, List.length_cons, List.length_nil, U_len, little_len]; omega)) (srcH_row rfl rfl (fun _ => by simp only [List.length_append, List.length_replicate, List.length_map, List.length_cons, List.length_nil, U_len, little_len]; omega)) (fun h => by cases h) (by simp only [List.length_append, List.length_replicate, List.length_map, List.length_cons, List.length_nil, U_len, little_len]; omega)) ?_
        rintro _ _ ⟨rfl, rfl⟩
        have htk : (hdsOf x).take k = hdsOf x := by rw [hkn, List.take_length]
        have hout : ((((((((((((U [127, 69, 76, 70, 2, 1, 1] ++ List.replicate 9 (T.int .u8 0)) ++ U (little 2 2)) ++ U (little 2 M)) ++ U (little 4 1)) ++ U (little 8 En)) ++ U (little 8 64)) ++ U (little 8 0)) ++ U (little 4 0)) ++ U (little 2 64)) ++ U (little 2 56)) ++ U (little 2 (hdsOf x).length)) ++ U (little 6 0)) = U (outK x 0) := by
          have e1 : outK x 0 = frontB x (hdsOf x).length := by simp [outK, hdsB]
          rw [e1, frontB, ← hM', ← hEn]
          simp only [U_app, ← U_rep]
        refine loop_on (fun j : Nat => j ≤ (hdsOf x).length) (wqT x) (fun j => (hdsOf x).length - j) 0 (Nat.zero_le _) ?_ (fun j hj => ?_)
        · exact weak_gc [0, 1, 2, 3, 4, 5, 6] rfl ⟨rfl, rfl, rfl, rfl, rfl, rfl, trivial⟩ ⟨rfl, congrArg (fun n => some (Blk.arr 60 8 true 0 (.ts (rowK (at0 x) (hdsOf x) n)))) hkn, rfl, congrArg (fun l : List HdD => some (Blk.box [.sl 5 0 0 (U (bodyOf (at0 x) l)).length, .t (.int .i64 0), .t (.int .i8 0)])) htk, congrArg (fun l : List T => some (Blk.box [.sl 6 0 0 l.length, .t (.int .i64 0), .t (.int .i8 0)])) hout, congrArg (fun l : List HdD => some (Blk.arr 5 1 false 0 (.ts (U (bodyOf (at0 x) l))))) htk, congrArg (fun l => some (Blk.arr 5 1 false 0 (.ts l))) hout, trivial⟩
        refine br_intro (fun c => ?_) (fun c => ?_)
        · have hjn : j < (hdsOf x).length := by have := of_decide_eq_true c; omega
          obtain ⟨hd, hhd⟩ : ∃ hd, (hdsOf x)[j]? = some hd := ⟨_, List.getElem?_eq_getElem hjn⟩
          have ok := hok hd (List.mem_of_getElem? hhd)
          have o1 := ok.v; have o2 := ok.al1; have o3 := ok.al2; have o4 := ok.d; have o5 := ok.k; have o6 := ok.fl
          have hr := row_at (a := at0 x) hhd
          rw [← rowK_end] at hr
          have hsB := hdsB_succ (a := at0 x) hhd
          obtain ⟨o, ho⟩ : ∃ o, o = endOf (at0 x) ((hdsOf x).take j) + gapOf (endOf (at0 x) ((hdsOf x).take j)) hd := ⟨_, rfl⟩
          rw [← ho] at hr hsB
          have hlen : (outK x j).length = 64 + 56 * j := by
            simp only [outK, List.length_append, frontB_len]
            rw [hdsB_len _ _ (offsOf_len _ _), List.length_take, Nat.min_eq_left hj]
          refine ck_intro (ix_in hjn) ?_
          refine opt_intro (ix_get hr) ?_
          refine st_intro (n := (hd.k : Int)) (u64_nat (by omega)) ?_
          refine st_intro (n := (hd.fl : Int)) (u64_nat (by omega)) ?_
          refine CallS.of_fn tabS_ok regS_ok Tryd.func27 rfl rfl ?_
          refine loop_un 10 ?_
          refine CallS.pure (append_nil_runs 4 hd.k (by omega)) rfl ?_
          refine CallS.mono (write_calls (L := Tryd.lays180) (l := U (outK x j)) (p := U (little 4 hd.k)) rfl rfl rfl rfl (.row 6 0 _ rfl (by simp only [List.length_append, List.length_replicate, List.length_map, List.length_cons, List.length_nil, U_len, little_len, hlen]; omega)) (srcH_row rfl rfl (fun _ => by simp only [List.length_append, List.length_replicate, List.length_map, List.length_cons, List.length_nil, U_len, little_len, hlen]; omega)) (fun h => by cases h) (by simp only [List.length_append, List.length_replicate, List.length_map, List.length_cons, List.length_nil, U_len, little_len, hlen]; omega)) ?_
          rintro _ _ ⟨rfl, rfl⟩
          refine CallS.pure (append_nil_runs 4 hd.fl (by omega)) rfl ?_
          refine CallS.mono (write_calls (L := Tryd.lays180) (l := (U (outK x j) ++ U (little 4 hd.k))) (p := U (little 4 hd.fl)) rfl rfl rfl rfl (.row 6 2 _ rfl (by simp only [List.length_append, List.length_replicate, List.length_map, List.length_cons, List.length_nil, U_len, little_len, hlen]; omega)) (srcH_row rfl rfl (fun _ => by simp only [List.length_append, List.length_replicate, List.length_map, List.length_cons, List.length_nil, U_len, little_len, hlen]; omega)) (fun h => by cases h) (by simp only [List.length_append, List.length_replicate, List.length_map, List.length_cons, List.length_nil, U_len, little_len, hlen]; omega)) ?_
          rintro _ _ ⟨rfl, rfl⟩
          refine CallS.pure (append_nil_runs 8 o (by omega)) rfl ?_
          refine CallS.mono (write_calls (L := Tryd.lays180) (l := ((U (outK x j) ++ U (little 4 hd.k)) ++ U (little 4 hd.fl))) (p := U (little 8 o)) rfl rfl rfl rfl (.row 6 4 _ rfl (by simp only [List.length_append, List.length_replicate, List.length_map, List.length_cons, List.length_nil, U_len, little_len, hlen]; omega)) (srcH_row rfl rfl (fun _ => by simp only [List.length_append, List.length_replicate, List.length_map, List.length_cons, List.length_nil, U_len, little_len, hlen]; omega)) (fun h => by cases h) (by simp only [List.length_append, List.length_replicate, List.length_map, List.length_cons, List.length_nil, U_len, little_len, hlen]; omega)) ?_
          rintro _ _ ⟨rfl, rfl⟩
          refine CallS.pure (append_nil_runs 8 hd.v (by omega)) rfl ?_
          refine CallS.mono (write_calls (L := Tryd.lays180) (l := (((U (outK x j) ++ U (little 4 hd.k)) ++ U (little 4 hd.fl)) ++ U (little 8 o))) (p := U (little 8 hd.v)) rfl rfl rfl rfl (.row 6 6 _ rfl (by simp only [List.length_append, List.length_replicate, List.length_map, List.length_cons, List.length_nil, U_len, little_len, hlen]; omega)) (srcH_row rfl rfl (fun _ => by simp only [List.length_append, List.length_replicate, List.length_map, List.length_cons, List.length_nil, U_len, little_len, hlen]; omega)) (fun h => by cases h) (by simp only [List.length_append, List.length_replicate, List.length_map, List.length_cons, List.length_nil, U_len, little_len, hlen]; omega)) ?_
          rintro _ _ ⟨rfl, rfl⟩
          refine CallS.pure (append_nil_runs 8 hd.v (by omega)) rfl ?_
          refine CallS.mono (write_calls (L := Tryd.lays180) (l := ((((U (outK x j) ++ U (little 4 hd.k)) ++ U (little 4 hd.fl)) ++ U (little 8 o)) ++ U (little 8 hd.v))) (p := U (little 8 hd.v)) rfl rfl rfl rfl (.row 6 8 _ rfl (by simp only [List.length_append, List.length_replicate, List.length_map, List.length_cons, List.length_nil, U_len, little_len, hlen]; omega)) (srcH_row rfl rfl (fun _ => by simp only [List.length_append, List.length_replicate, List.length_map, List.length_cons, List.length_nil, U_len, little_len, hlen]; omega)) (fun h => by cases h) (by simp only [List.length_append, List.length_replicate, List.length_map, List.length_cons, List.length_nil, U_len, little_len, hlen]; omega)) ?_
          rintro _ _ ⟨rfl, rfl⟩
          refine CallS.pure (append_nil_runs 8 hd.d.length (by omega)) rfl ?_
          refine CallS.mono (write_calls (L := Tryd.lays180) (l := (((((U (outK x j) ++ U (little 4 hd.k)) ++ U (little 4 hd.fl)) ++ U (little 8 o)) ++ U (little 8 hd.v)) ++ U (little 8 hd.v))) (p := U (little 8 hd.d.length)) rfl rfl rfl rfl (.row 6 10 _ rfl (by simp only [List.length_append, List.length_replicate, List.length_map, List.length_cons, List.length_nil, U_len, little_len, hlen]; omega)) (srcH_row rfl rfl (fun _ => by simp only [List.length_append, List.length_replicate, List.length_map, List.length_cons, List.length_nil, U_len, little_len, hlen]; omega)) (fun h => by cases h) (by simp only [List.length_append, List.length_replicate, List.length_map, List.length_cons, List.length_nil, U_len, little_len, hlen]; omega)) ?_
          rintro _ _ ⟨rfl, rfl⟩
          refine CallS.pure (append_nil_runs 8 hd.sz (by omega)) rfl ?_
          refine CallS.mono (write_calls (L := Tryd.lays180) (l := ((((((U (outK x j) ++ U (little 4 hd.k)) ++ U (little 4 hd.fl)) ++ U (little 8 o)) ++ U (little 8 hd.v)) ++ U (little 8 hd.v)) ++ U (little 8 hd.d.length))) (p := U (little 8 hd.sz)) rfl rfl rfl rfl (.row 6 12 _ rfl (by simp only [List.length_append, List.length_replicate, List.length_map, List.length_cons, List.length_nil, U_len, little_len, hlen]; omega)) (srcH_row rfl rfl (fun _ => by simp only [List.length_append, List.length_replicate, List.length_map, List.length_cons, List.length_nil, U_len, little_len, hlen]; omega)) (fun h => by cases h) (by simp only [List.length_append, List.length_replicate, List.length_map, List.length_cons, List.length_nil, U_len, little_len, hlen]; omega)) ?_
          rintro _ _ ⟨rfl, rfl⟩
          refine CallS.pure (append_nil_runs 8 hd.al (by omega)) rfl ?_
          refine CallS.mono (write_calls (L := Tryd.lays180) (l := (((((((U (outK x j) ++ U (little 4 hd.k)) ++ U (little 4 hd.fl)) ++ U (little 8 o)) ++ U (little 8 hd.v)) ++ U (little 8 hd.v)) ++ U (little 8 hd.d.length)) ++ U (little 8 hd.sz))) (p := U (little 8 hd.al)) rfl rfl rfl rfl (.row 6 14 _ rfl (by simp only [List.length_append, List.length_replicate, List.length_map, List.length_cons, List.length_nil, U_len, little_len, hlen]; omega)) (srcH_row rfl rfl (fun _ => by simp only [List.length_append, List.length_replicate, List.length_map, List.length_cons, List.length_nil, U_len, little_len, hlen]; omega)) (fun h => by cases h) (by simp only [List.length_append, List.length_replicate, List.length_map, List.length_cons, List.length_nil, U_len, little_len, hlen]; omega)) ?_
          rintro _ _ ⟨rfl, rfl⟩
          have hfin : ((((((((U (outK x j) ++ U (little 4 hd.k)) ++ U (little 4 hd.fl)) ++ U (little 8 o)) ++ U (little 8 hd.v)) ++ U (little 8 hd.v)) ++ U (little 8 hd.d.length)) ++ U (little 8 hd.sz)) ++ U (little 8 hd.al)) = U (outK x (j + 1)) := by
            have e1 : outK x (j + 1) = outK x j ++ hdB hd o := by rw [outK, hsB, ← List.append_assoc]; rfl
            rw [e1, hdB]
            simp only [U_app, List.append_assoc]
          refine st_intro (n := ((j + 1 : Nat) : Int)) (by rw [i64_in _ (by omega)]; omega) ?_
          conv => whnf
          refine ⟨⟨j + 1, ?_⟩, weak_gc [0, 1, 2, 3, 4, 5, 6] rfl ⟨rfl, rfl, rfl, rfl, rfl, rfl, trivial⟩ ⟨rfl, rfl, rfl, rfl, congrArg (fun l : List T => some (Blk.box [.sl 6 0 0 l.length, .t (.int .i64 0), .t (.int .i8 0)])) hfin, rfl, congrArg (fun l => some (Blk.arr 5 1 false 0 (.ts l))) hfin, trivial⟩, by show (hdsOf x).length - (j + 1) < (hdsOf x).length - j; omega⟩
          omega
        · have hjn : j = (hdsOf x).length := by have := of_decide_eq_false c; omega
          have hlen : (outK x j).length = 64 + 56 * j := by
            simp only [outK, List.length_append, frontB_len]
            rw [hdsB_len _ _ (offsOf_len _ _), List.length_take, Nat.min_eq_left hj]
          rw [htk] at hbo
          refine CallS.of_fn tabS_ok regS_ok Tryd.func28 rfl rfl ?_
          refine draw_introS ordBy (by decide +kernel) ?_
          refine And.intro (fun j hj => by cases hj) ?_
          refine CallS.mono (write_calls (L := Tryd.lays180) (l := U (outK x j)) (p := U (bodyOf (at0 x) (hdsOf x))) rfl rfl rfl rfl (.row 6 0 _ rfl (by rw [U_len, hlen]; omega)) (srcH_row rfl (Nat.sub_zero _) (fun h => by cases h)) (fun h => by cases h) (by rw [U_len, U_len, hlen]; omega)) ?_
          rintro _ _ ⟨rfl, rfl⟩
          refine CallS.of_fn tabS_ok regS_ok Tryd.func28 rfl rfl ?_
          refine draw_introS ordBy (by decide +kernel) ?_
          refine And.intro (fun j hj => by cases hj) ?_
          have hfile : U (outK x j) ++ U (bodyOf (at0 x) (hdsOf x)) = U (fileL x) := by
            rw [fileL, outK, hjn, List.take_length]
            simp only [U_app]; rfl
          show Pack _ _ _
          rw [h2 hle]
          exact ⟨⟨⟨congrArg (fun l => some (Blk.arr 5 1 false 2 (.ts l))) hfile, rfl, (Nat.sub_zero _).trans (congrArg List.length hfile)⟩, rfl, trivial⟩, rfl⟩

end Go.Proofs.YthpkehhghcpolaaDoor
