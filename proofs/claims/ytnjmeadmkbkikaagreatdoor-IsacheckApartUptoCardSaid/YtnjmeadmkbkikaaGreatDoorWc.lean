/-
  Registers: their widths, as the program and the document reckon them (walks).
-/
import Derived.Test.YtnjmeadmkbkikaaGreatDoorWb
namespace Go.Proofs.YtnjmeadmkbkikaaGreatDoor
open Go.IntWalk
set_option maxRecDepth 100000
set_option linter.unusedVariables false
set_option linter.unusedSimpArgs false

def ord_55_8 : Ord := (.op 0 [] (.op 1 [] (.op 2 [1, 0] (.op 3 [1, 0] (.op 4 [1, 0] (.op 5 [] (.op 6 [] (.op 7 [] (.op 8 [] (.op 9 [] (.op 10 [9, 8] (.op 11 [9, 8] (.op 12 [] (.op 13 [] (.op 14 [] (.op 15 [14, 13, 12, 11, 10, 9, 8] (.op 16 [14, 13, 12, 11, 10, 9, 8] (.op 17 [14, 13, 12, 11, 10, 9, 8] (.op 18 [14, 13, 12, 11, 10, 9, 8] (.op 19 [] (.op 20 [] (.op 21 [] .nil))))))))))))))))))))))
def ord_55_10 : Ord := (.op 0 [] (.op 1 [] (.op 2 [] (.op 3 [2, 1, 0] (.op 4 [2, 1, 0] (.op 5 [4, 3, 2, 1, 0] (.op 6 [4, 3, 2, 1, 0] (.op 7 [2, 1, 0] (.op 8 [2, 1, 0] (.op 9 [2, 1, 0] (.op 10 [] (.op 11 [] (.op 12 [11, 10, 9, 8, 7, 6, 5, 4, 3, 2, 1, 0] (.op 13 [] .nil))))))))))))))
def ord_28_1 : Ord := (.op 0 [] (.op 1 [] (.op 3 [1, 0] (.op 4 [1, 0] (.op 5 [1, 0] (.op 2 [5, 4, 3] (.op 6 [] .nil)))))))
def ord_28_27 : Ord := (.op 0 [] (.op 1 [] (.op 3 [1, 0] (.op 4 [1, 0] (.op 2 [4, 3] (.op 5 [] (.op 6 [] .nil)))))))
def ord_28_31 : Ord := (.op 0 [] (.op 1 [] (.op 2 [1, 0] (.op 3 [1, 0] (.op 4 [1, 0] (.op 5 [] (.op 6 [] (.op 7 [] (.op 8 [] (.op 9 [8, 7] (.op 10 [8, 7] (.op 11 [] (.op 12 [] (.op 13 [] (.op 14 [13, 12, 11, 10, 9, 8, 7] (.op 15 [13, 12, 11, 10, 9, 8, 7] (.op 16 [13, 12, 11, 10, 9, 8, 7] (.op 17 [13, 12, 11, 10, 9, 8, 7] (.op 18 [] (.op 19 [] (.op 20 [] .nil)))))))))))))))))))))
def ord_28_32 : Ord := (.op 0 [] (.op 1 [] (.op 2 [] (.op 3 [] (.op 22 [3, 2, 1, 0] (.op 23 [3, 2, 1, 0] (.op 4 [23, 22] (.op 5 [23, 22] (.op 6 [23, 22] (.op 7 [23, 22] (.op 8 [23, 22] (.op 9 [23, 22] (.op 10 [9, 8, 7, 23, 22] (.op 11 [9, 8, 7, 23, 22] (.op 12 [11, 10, 9, 8, 7, 23, 22] (.op 13 [11, 10, 9, 8, 7, 23, 22] (.op 14 [9, 8, 7, 23, 22] (.op 15 [9, 8, 7, 23, 22] (.op 16 [9, 8, 7, 23, 22] (.op 17 [23, 22] (.op 18 [23, 22] (.op 19 [23, 22] (.op 20 [23, 22] (.op 21 [23, 22] (.op 24 [] (.op 25 [] .nil))))))))))))))))))))))))))
def ord_28_39 : Ord := (.op 0 [] (.op 1 [] (.op 8 [1, 0] (.op 9 [1, 0] (.op 2 [9, 8] (.op 3 [9, 8] (.op 4 [9, 8] (.op 5 [9, 8] (.op 6 [9, 8] (.op 7 [9, 8] (.op 10 [] (.op 11 [] .nil))))))))))))
theorem i64_int {n : Int} (h : -9223372036854775808 ≤ n) (h2 : n ≤ 9223372036854775807) : IntKind.i64.wrap n = n := by rw [IntKind.wrap_i64]; omega
theorem row_get {α : Type} {f : α → T} {l : List α} {i : Nat} {a : α} (h : l[i]? = some a) : (l.map f)[i]? = some (f a) := by rw [List.getElem?_map, h]; rfl
theorem nb' {b : Bool} (h : (!b) = true) : b = false := by simpa using h
theorem ix0 {i : Int} {b : Bool} (hb : b = true) (h : 0 ≤ i) : (b && decide (0 ≤ i)) = true := by rw [hb, decide_eq_true h]; rfl
theorem am1 {a : Int} {α : Type} {f : α → T} {l : List α} (c : decide (0 ≤ a ∧ a < ((l.map f).length : Int)) = true) : 0 ≤ a ∧ a < (l.length : Int) := by simpa using of_decide_eq_true c
theorem am0 {a : Int} {α : Type} {f : α → T} {l : List α} (c : decide (0 ≤ a ∧ a < ((l.map f).length : Int)) = false) : ¬ (0 ≤ a ∧ a < (l.length : Int)) := by simpa using of_decide_eq_false c
theorem fin_i {a b : Int} (h : a = b) : some (T.int .i64 a) = some (T.int .i64 b) := by rw [h]

theorem DescD.ok.file {d : DescD} (h : d.ok) {x : FileD} (hx : x ∈ d.files) : x.ok := by unfold DescD.ok at h; exact h.2.2.2.1 x hx

theorem register_runs (d : DescD) (f : FormD) (op w a b : Int) (ks : List T) (hb : I64 b) : Runs Tryz.prog 63 [descT d, formT f, .agg [.int .i64 op, .int .i64 w, .int .i64 a, .int .i64 b, .vecd 5 ks]] (.t (.int .i64 (regW d f a b))) := by
  refine Runs.of_call ?_ rfl
  refine CallS.of_fn tabS_ok regS_ok Tryz.func63 rfl rfl ?_
  refine CallS.pure (among_runs a (d.files.map fileT).length) rfl ?_
  refine br_intro (fun c => ?_) (fun c => ?_)
  · have hc := am0 (nb' c)
    exact And.intro (fin_i (by rw [regW, at_none hc])) rfl
  · have hc := am1 (nf c)
    obtain ⟨x, hx, hm, hg⟩ := at_some hc
    refine ck_intro (ix0 rfl hc.1) ?_
    refine opt_intro (row_get hg) ?_
    refine CallS.pure (file_runs x) rfl ?_
    refine br_intro (fun c1 => ?_) (fun c1 => ?_)
    · exact And.intro (fin_i (by rw [regW, hx]; simp only; rw [if_neg (df (nb' c1))])) rfl
    have hxf := dt (nf c1)
    refine ck_intro (ix0 rfl hc.1) ?_
    refine opt_intro (row_get hg) ?_
    refine br_intro (fun c2 => ?_) (fun c2 => ?_)
    · have c2 : b < 0 := dt c2
      have hbb := hb.1
      refine st_intro (n := -1 - b) (i64_int (by omega) (by omega)) ?_
      refine CallS.pure (among_runs _ _) rfl ?_
      refine br_intro (fun c3 => ?_) (fun c3 => ?_)
      · have c3 := df (nb' c3)
        exact And.intro (fin_i (by rw [regW, hx]; simp only; rw [if_pos hxf, if_pos c2, if_neg (by omega)])) rfl
      · have c3 := dt (nf c3)
        exact And.intro (fin_i (by rw [regW, hx]; simp only; rw [if_pos hxf, if_pos c2, if_pos (by omega)])) rfl
    · have c2 : ¬ b < 0 := df c2
      refine draw_introS ord_55_8 (by decide +kernel) ?_
      refine CallS.pure (among_runs _ _) rfl ?_
      refine And.intro (fun j hj => by cases hj) ?_
      refine br_intro (fun c3 => ?_) (fun c3 => ?_)
      · have hg1 := am0 (nb' c3)
        refine And.intro (fun j hj => by cases hj) ?_
        exact And.intro (fin_i (by rw [regW, hx]; simp only; rw [if_pos hxf, if_neg c2, at_none hg1])) rfl
      have h3 := am1 (nf c3)
      obtain ⟨g, g1, g2, g3⟩ := at_some h3
      refine ck_intro (ix0 rfl h3.1) ?_
      refine opt_intro (row_get g3) ?_
      refine CallS.pure (among_runs _ _) rfl ?_
      refine And.intro (fun j hj => by cases hj) ?_
      refine br_intro (fun c4 => ?_) (fun c4 => ?_)
      · have hg1 := am0 (nb' c4)
        exact And.intro (fin_i (by rw [regW, hx]; simp only; rw [if_pos hxf, if_neg c2, g1]; simp only; rw [at_none hg1])) rfl
      have h4 := am1 (nf c4)
      obtain ⟨k, k1, k2, k3⟩ := at_some h4
      refine draw_introS ord_55_10 (by decide +kernel) ?_
      refine ck_intro (ix0 rfl h3.1) ?_
      refine opt_intro (row_get g3) ?_
      refine ck_intro (ix0 rfl h4.1) ?_
      refine opt_intro (row_get k3) ?_
      refine And.intro (fun j hj => by cases hj) ?_
      have e : regW d f a b = if k.kind = 1 ∧ k.file = a then x.width else 0 := by rw [regW, hx]; simp only; rw [if_pos hxf, if_neg c2, g1]; simp only; rw [k1]
      rw [e]
      refine br_intro (fun c5 => ?_) (fun c5 => ?_)
      · exact And.intro (fin_i (if_neg fun h => (by simpa using c5 : ¬ k.kind = 1) h.1).symm) rfl
      refine br_intro (fun c6 => ?_) (fun c6 => ?_)
      · exact And.intro (fin_i (if_neg fun h => (by simpa using c6 : ¬ k.file = a) h.2).symm) rfl
      · exact And.intro (fin_i (if_pos ⟨by simpa using c5, by simpa using c6⟩).symm) rfl

theorem regW_range (d : DescD) (f : FormD) (a b : Int) : 0 ≤ regW d f a b ∧ regW d f a b ≤ 128 := by
  unfold regW
  split
  · omega
  · rename_i x _
    by_cases hx : x.fine
    · rw [if_pos hx]
      have h1 := hx.2.2.1
      have h2 := hx.2.2.2.1
      repeat' split
      all_goals omega
    · rw [if_neg hx]; omega

end Go.Proofs.YtnjmeadmkbkikaaGreatDoor
