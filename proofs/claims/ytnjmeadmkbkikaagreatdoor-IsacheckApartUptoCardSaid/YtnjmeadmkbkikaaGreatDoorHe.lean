/-
  Effects: the widths of their terms (walks that end, whatever they answer).
-/
import Derived.Test.YtnjmeadmkbkikaaGreatDoorWe
import Derived.Test.YtnjmeadmkbkikaaGreatDoorHd
namespace Go.Proofs.YtnjmeadmkbkikaaGreatDoor
open Go.IntWalk
set_option maxRecDepth 100000
set_option linter.unusedVariables false
set_option linter.unusedSimpArgs false
set_option maxHeartbeats 1000000

def ord_22_3 : Ord := (.op 0 [] (.op 1 [0] (.op 2 [1, 0] (.op 3 [1, 0] (.op 4 [3, 2, 1, 0] (.op 5 [4, 3, 2, 1, 0] (.op 6 [5, 4, 3, 2, 1, 0] (.op 7 [3, 2, 1, 0] (.op 8 [3, 2, 1, 0] (.op 9 [] (.op 10 [] .nil)))))))))))
def ord_22_15 : Ord := (.op 0 [] (.op 1 [] (.op 2 [] (.op 3 [] (.op 4 [] (.op 5 [] (.op 6 [5] (.op 7 [6, 5] (.op 8 [6, 5] (.op 9 [6, 5] (.op 10 [9, 8, 7, 6, 5] (.op 11 [] (.op 12 [] (.op 13 [] (.op 14 [] (.op 15 [] (.op 16 [] (.op 17 [16, 15, 14] (.op 18 [] (.op 19 [] (.op 20 [] .nil)))))))))))))))))))))
def ord_54_6 : Ord := (.op 0 [] (.op 1 [0] (.op 2 [] (.op 3 [] (.op 4 [] (.op 5 [] (.op 6 [] (.op 7 [6] (.op 8 [7, 6] (.op 10 [8, 7, 6] (.op 11 [10, 8, 7, 6] (.op 12 [8, 7, 6] (.op 13 [8, 7, 6] (.op 9 [13, 12, 11, 10] (.op 14 [] (.op 15 [] .nil))))))))))))))))

theorem wid0_range (d : DescD) (f : FormD) (op w a b : Int) : 0 ≤ wid0 d f op w a b ∧ wid0 d f op w a b ≤ 128 := by
  have hr := regW_range d f a b
  unfold wid0 wideP
  repeat' split
  all_goals omega
theorem wid1_range {op w a b x : Int} (hx : 0 ≤ x ∧ x ≤ 128) : 0 ≤ wid1 op w a b x ∧ wid1 op w a b x ≤ 128 := by
  unfold wid1 wideP memP
  repeat' split
  all_goals omega
theorem wid2_range {op x y : Int} (hx : 0 ≤ x ∧ x ≤ 128) (hy : 0 ≤ y ∧ y ≤ 128) : 0 ≤ wid2 op x y ∧ wid2 op x y ≤ 128 := by
  unfold wid2
  repeat' split
  all_goals omega
theorem wid3_range {op x y z : Int} (hx : 0 ≤ x ∧ x ≤ 128) (hy : 0 ≤ y ∧ y ≤ 128) : 0 ≤ wid3 op x y z ∧ wid3 op x y z ≤ 128 := by
  unfold wid3
  repeat' split
  all_goals omega

theorem width_some (d : DescD) (f : FormD) {t : T} (h : IsTerm t) : ∃ v : Int, (0 ≤ v ∧ v ≤ 128) ∧ Runs Tryz.prog 103 [descT d, formT f, t] (.t (.int .i64 v)) := by
  induction h with
  | mk op w a b ks ho hw ha hb hl hks ih =>
    match ks, hks, ih with
    | [], _, _ =>
      exact ⟨wid0 d f op w a b, wid0_range .., width0 d f op w a b hb⟩
    | [k0], hks, ih =>
      obtain ⟨x, hx, rx⟩ := ih k0 (by simp)
      have h0 := hks k0 (by simp)
      refine ⟨wid1 op w a b x, wid1_range hx, ?_⟩
      by_cases hk : kidsN op = 1
      · rcases kidsN_1 hk with rfl | rfl | rfl | rfl | rfl | rfl
        · exact width1_18 d f w a b ha hb h0 hx rx
        · exact width1_19 d f w a b ha hb h0 hx rx
        · exact width1_26 d f w a b ha hb h0 hx rx
        · exact width1_28 d f w a b ha hb h0 hx rx
        · exact width1_29 d f w a b ha hb h0 hx rx
        · exact width1_30 d f w a b ha hb h0 hx rx
      · rw [wid1_no hk]; exact width_no d f op w a b [k0] hk
    | [k0, k1], hks, ih =>
      obtain ⟨x, hx, rx⟩ := ih k0 (by simp)
      obtain ⟨y, hy, ry⟩ := ih k1 (by simp)
      have h0 := hks k0 (by simp)
      have h1 := hks k1 (by simp)
      refine ⟨wid2 op x y, wid2_range hx hy, ?_⟩
      by_cases hk : kidsN op = 2
      · rcases kidsN_2 hk with rfl | rfl | rfl | rfl | rfl | rfl | rfl | rfl | rfl | rfl | rfl | rfl | rfl | rfl | rfl | rfl | rfl
        · exact width2_1 d f w a b ha hb h0 hx rx h1 hy ry
        · exact width2_2 d f w a b ha hb h0 hx rx h1 hy ry
        · exact width2_3 d f w a b ha hb h0 hx rx h1 hy ry
        · exact width2_4 d f w a b ha hb h0 hx rx h1 hy ry
        · exact width2_5 d f w a b ha hb h0 hx rx h1 hy ry
        · exact width2_6 d f w a b ha hb h0 hx rx h1 hy ry
        · exact width2_7 d f w a b ha hb h0 hx rx h1 hy ry
        · exact width2_8 d f w a b ha hb h0 hx rx h1 hy ry
        · exact width2_9 d f w a b ha hb h0 hx rx h1 hy ry
        · exact width2_10 d f w a b ha hb h0 hx rx h1 hy ry
        · exact width2_11 d f w a b ha hb h0 hx rx h1 hy ry
        · exact width2_12 d f w a b ha hb h0 hx rx h1 hy ry
        · exact width2_13 d f w a b ha hb h0 hx rx h1 hy ry
        · exact width2_14 d f w a b ha hb h0 hx rx h1 hy ry
        · exact width2_15 d f w a b ha hb h0 hx rx h1 hy ry
        · exact width2_16 d f w a b ha hb h0 hx rx h1 hy ry
        · exact width2_17 d f w a b ha hb h0 hx rx h1 hy ry
      · rw [wid2_no hk]; exact width_no d f op w a b [k0, k1] hk
    | [k0, k1, k2], hks, ih =>
      obtain ⟨x, hx, rx⟩ := ih k0 (by simp)
      obtain ⟨y, hy, ry⟩ := ih k1 (by simp)
      obtain ⟨z, hz, rz⟩ := ih k2 (by simp)
      have h0 := hks k0 (by simp)
      have h1 := hks k1 (by simp)
      have h2 := hks k2 (by simp)
      refine ⟨wid3 op x y z, wid3_range hx hy, ?_⟩
      by_cases hk : kidsN op = 3
      · obtain rfl := kidsN_3 hk
        exact width3_27 d f w a b ha hb h0 hx rx h1 hy ry h2 hz rz
      · rw [wid3_no hk]; exact width_no d f op w a b [k0, k1, k2] hk
    | k0 :: k1 :: k2 :: k3 :: ks, hks, ih =>
      have := kidsN_le op
      exact ⟨0, by omega, width_no d f op w a b _ (by simp only [List.length_cons]; omega)⟩

def descC (d : DescD) : List AV := [.t (.str d.name), .t (.int .i64 d.order), .t (.vecd 4 (d.files.map fileT)), .t (.vecd 3 (d.aliases.map aliasT)), .t (.vecd 1 (d.flags.map T.str)), .t (.vecd 7 (d.classes.map classT)), .t (.vecd 5 (d.forms.map formT)), .t (.vecd 17 (d.rels.map relT)), .t (.vecd 4 (d.uses.map useT)), .t (.vecd 3 (d.relaxes.map relaxedT)), .t (.vecd 3 (d.macros.map macroT)), .t (.vecd 2 (d.nums.map namedT)), .t (.vecd 3 (d.regs.map aliasT))]
def formC (f : FormD) : List AV := [.t (.str f.name), .t (.str f.syn), .t (.vecd 2 (f.args.map argT)), .t (.vecd 4 (f.pieces.map pieceT)), .t (.vecd 5 f.sem)]
/-- A form, where a function has captured it. -/
def fmP (f : FormD) : T := .iptr [.str f.name, .str f.syn, .vecd 2 (f.args.map argT), .vecd 4 (f.pieces.map pieceT), .vecd 5 f.sem]

theorem widths_runs (d : DescD) (f : FormD) (ks : List T) (ht : ∀ k ∈ ks, IsTerm k) (hl : ks.length ≤ 9223372036854775807) (ws : List Int) :
    RunsX Tryz.prog 62 [descT d, formT f, .vecd 5 ks, .vecd 1 (ws.map (T.int .i64))] (YesS True) := by
  have hmap : (ws.map (T.int .i64)).length = ws.length := by simp
  refine RunsX.of_call ?_ YesS.noRef
  refine CallS.of_fn tabS_ok regS_ok Tryz.func62 rfl rfl ?_
  refine br_intro (fun _ => ?_) (fun c0 => ?_)
  · exact no_end
  have c0 : ks.length = ws.length := by
    have : ((ks.length : Int) != ((ws.map (T.int .i64)).length : Int)) = false := c0
    rw [hmap] at this
    simp at this
    omega
  refine loop_on (fun i : Nat => i ≤ ks.length) (fun i => ⟨[(3, .t (.vecd 1 (ws.map (T.int .i64)))), (4, .ptr 0 0 0 0), (5, .ptr 1 0 0 0), (16, .t (.vecd 5 ks)), (17, .t (.int .i64 (ks.length : Int))), (18, .t (.int .i64 i))], [.box (descC d), .box (formC f)]⟩)
    (fun i => ks.length - i) 0 (Nat.zero_le _) ?_ (fun i hi => ?_)
  · exact weak_of ⟨rfl, rfl, rfl, rfl, rfl, rfl, trivial⟩ rfl
  refine br_intro (fun c => ?_) (fun c => ?_)
  · have c : i < ks.length := dlt c
    obtain ⟨k, hk, hkm⟩ := get_some (R := ks) (i := i) c
    obtain ⟨v, hv⟩ : ∃ v, ws[i]? = some v := ⟨ws[i], List.getElem?_eq_getElem (by omega)⟩
    have hti := ht k hkm
    obtain ⟨u, _, hu⟩ := width_some d f hti
    cases hti with | mk op wd a b kk _ _ _ _ _ _ =>
    refine opt_intro (show ks[((i : Nat) : Int).toNat]? = some _ from by rw [Int.toNat_natCast]; exact hk) ?_
    refine draw_introS ord_54_6 (by decide +kernel) ?_
    refine opt_intro (show (ws.map (T.int .i64))[((i : Nat) : Int).toNat]? = some (T.int .i64 v) from by rw [Int.toNat_natCast, List.getElem?_map, hv]; rfl) ?_
    refine br_intro (fun _ => ?_) (fun c1 => ?_)
    · refine And.intro (fun j hj => by first | (cases hj; done) | exact LeX.append _ _ _ | exact LeX.refl _ _) ?_
      exact no_end
    refine opt_intro (show (ws.map (T.int .i64))[((i : Nat) : Int).toNat]? = some (T.int .i64 v) from by rw [Int.toNat_natCast, List.getElem?_map, hv]; rfl) ?_
    refine CallS.frzG hu rfl ⟨.refl _, .refl _, .refl _, trivial⟩ ?_
    refine And.intro (fun j hj => by first | (cases hj; done) | exact LeX.append _ _ _ | exact LeX.refl _ _) ?_
    refine br_intro (fun _ => ?_) (fun c2 => ?_)
    · exact no_end
    refine st_intro (n := ((i + 1 : Nat) : Int)) (nat_in (n := i + 1) (by omega)) ?_
    conv => whnf
    exact ⟨⟨i + 1, c⟩, weak_gc [0, 1] rfl ⟨rfl, rfl, rfl, rfl, rfl, rfl, trivial⟩ ⟨rfl, rfl, trivial⟩, by show ks.length - (i + 1) < ks.length - i; omega⟩
  · exact yes_end fun _ => trivial

theorem effect_runs (d : DescD) (f : FormD) {t : T} (h : IsTerm t) : RunsX Tryz.prog 27 [descT d, formT f, t] (YesS True) := by
  induction h with
  | mk op w a b ks _ _ _ hbb hl ht ih =>
  have hW : ∀ ws : List Int, RunsX Tryz.prog 62 [descT d, formT f, .vecd 5 ks, .vecd 1 (ws.map (T.int .i64))] (YesS True) := fun ws => widths_runs d f ks ht (maxLen_le hl) ws
  have hF : ∀ k ∈ ks, RunsX Tryz.prog 65 [k, ckP d, fmP f] (YesS True) := fun k hk => by
    have ihk := ih k hk
    have hti := ht k hk
    cases hti with | mk op wd a b kk _ _ _ _ _ _ =>
    refine RunsX.of_call ?_ YesS.noRef
    refine CallS.of_fn tabS_ok regS_ok Tryz.func65 rfl rfl ?_
    refine CallS.frzX ihk rfl ⟨.refl _, .refl _, .refl _, trivial⟩ ?_
    rintro _ ⟨bS, rfl, pS⟩
    exact yes_end fun _ => trivial
  refine RunsX.of_call ?_ YesS.noRef
  refine CallS.of_fn tabS_ok regS_ok Tryz.func27 rfl rfl ?_
  refine br_intro (fun _ => ?_) (fun _ => ?_)
  · refine draw_introS ord_22_3 (by decide +kernel) ?_
    refine CallS.frzG (register_runs d f op w a b ks hbb) rfl ⟨.refl _, .refl _, .refl _, trivial⟩ ?_
    refine And.intro (fun j hj => by first | (cases hj; done) | exact LeX.append _ _ _ | exact LeX.refl _ _) ?_
    refine CallS.frzX (hW [regW d f a b]) rfl ⟨.refl _, .refl _, .refl _, .vec 1 _, trivial⟩ ?_
    rintro _ ⟨bS, rfl, pS⟩
    refine And.intro (fun j hj => by first | (cases hj; done) | exact LeX.append _ _ _ | exact LeX.refl _ _) ?_
    refine And.intro (fun j hj => by first | (cases hj; done) | exact LeX.append _ _ _ | exact LeX.refl _ _) ?_
    exact yes_end fun _ => trivial
  refine br_intro (fun _ => ?_) (fun _ => ?_)
  · refine CallS.pure (among_runs _ _) rfl ?_
    refine br_intro (fun c1 => ?_) (fun _ => ?_)
    rotate_left 1
    · exact no_end
    refine CallS.frzX (hW [1]) rfl ⟨.refl _, .refl _, .refl _, .vec 1 _, trivial⟩ ?_
    rintro _ ⟨bS, rfl, pS⟩
    exact yes_end fun _ => trivial
  refine br_intro (fun _ => ?_) (fun _ => ?_)
  · refine CallS.pure (memory_runs _) rfl ?_
    refine br_intro (fun c1 => ?_) (fun _ => ?_)
    rotate_left 1
    · exact no_end
    refine CallS.frzX (hW [64, w]) rfl ⟨.refl _, .refl _, .refl _, .vec 1 _, trivial⟩ ?_
    rintro _ ⟨bS, rfl, pS⟩
    exact yes_end fun _ => trivial
  refine br_intro (fun _ => ?_) (fun _ => ?_)
  · refine CallS.frzX (hW [64]) rfl ⟨.refl _, .refl _, .refl _, .vec 1 _, trivial⟩ ?_
    rintro _ ⟨bS, rfl, pS⟩
    exact yes_end fun _ => trivial
  refine br_intro (fun _ => ?_) (fun _ => ?_)
  · refine br_intro (fun c1 => ?_) (fun _ => ?_)
    rotate_left 1
    · exact no_end
    refine br_intro (fun c2 => ?_) (fun _ => ?_)
    rotate_left 1
    · exact no_end
    exact yes_end fun _ => trivial
  refine br_intro (fun _ => ?_) (fun _ => ?_)
  · exact yes_end fun _ => trivial
  refine br_intro (fun _ => ?_) (fun _ => ?_)
  · refine draw_introS ord_22_15 (by decide +kernel) ?_
    refine br_intro (fun c1 => ?_) (fun _ => ?_)
    rotate_left 1
    · refine And.intro (fun j hj => by first | (cases hj; done) | exact LeX.append _ _ _ | exact LeX.refl _ _) ?_
      refine And.intro (fun j hj => by first | (cases hj; done) | exact LeX.append _ _ _ | exact LeX.refl _ _) ?_
      refine And.intro (fun j hj => by first | (cases hj; done) | exact LeX.append _ _ _ | exact LeX.refl _ _) ?_
      exact no_end
    have c1 : 1 ≤ ks.length := by have := of_decide_eq_true c1; omega
    refine ck_intro (show (decide ((0 : Int) ≤ 1) && decide ((1 : Int) ≤ (ks.length : Int))) = true from by simp; omega) ?_
    have hW1 := widths_runs d f ((ks.drop 0).take (1 - 0)) (fun k hk => ht k (List.mem_of_mem_drop (List.mem_of_mem_take hk))) (by rw [List.length_take]; omega) [1]
    refine CallS.frzX hW1 rfl ⟨.refl _, .refl _, .refl _, .vec 1 _, trivial⟩ ?_
    rintro _ ⟨bS, rfl, pS⟩
    refine And.intro (fun j hj => by first | (cases hj; done) | exact LeX.append _ _ _ | exact LeX.refl _ _) ?_
    refine br_intro (fun c2 => ?_) (fun _ => ?_)
    rotate_left 1
    · refine And.intro (fun j hj => by first | (cases hj; done) | exact LeX.append _ _ _ | exact LeX.refl _ _) ?_
      refine And.intro (fun j hj => by first | (cases hj; done) | exact LeX.append _ _ _ | exact LeX.refl _ _) ?_
      exact no_end
    refine ck_intro (show (decide ((0 : Int) ≤ 1) && decide ((1 : Int) ≤ (ks.length : Int))) = true from by simp; omega) ?_
    have hA : RunsX Tryz.prog 25 [.vecd 5 ((ks.drop 1).take (ks.length - 1)), .fn (.func 65) [] [ckP d, fmP f]] (YesS (∀ x ∈ (ks.drop 1).take (ks.length - 1), True)) :=
      all_Term_02 _ (ckP d) (fmP f) ((ks.drop 1).take (ks.length - 1)) (fun _ => True) (by have := maxLen_le hl; rw [List.length_take]; omega) (fun k hk => ht k (List.mem_of_mem_drop (List.mem_of_mem_take hk))) fun x hx => hF x (List.mem_of_mem_drop (List.mem_of_mem_take hx))
    refine CallS.frzX hA rfl ⟨.refl _, .refl _, trivial⟩ ?_
    rintro _ ⟨bT, rfl, pT⟩
    refine And.intro (fun j hj => by first | (cases hj; done) | exact LeX.append _ _ _ | exact LeX.refl _ _) ?_
    refine And.intro (fun j hj => by first | (cases hj; done) | exact LeX.append _ _ _ | exact LeX.refl _ _) ?_
    exact yes_end fun _ => trivial
  exact no_end

end Go.Proofs.YtnjmeadmkbkikaaGreatDoor
