/-
  codec.New (walk).
-/
import Derived.Test.YtnjmeadmkbkikaaGreatDoorIh
import Derived.Test.YtnjmeadmkbkikaaGreatDoorIe
namespace Go.Proofs.YtnjmeadmkbkikaaGreatDoor
open Go.IntWalk
set_option maxRecDepth 100000
set_option linter.unusedVariables false
set_option linter.unusedSimpArgs false
set_option maxHeartbeats 4000000

def ord_12_9 : Ord := (.op 0 [] (.op 1 [0] (.op 2 [0] (.op 3 [0] (.op 4 [0] (.op 5 [4, 3, 2, 1, 0] (.op 6 [4, 3, 2, 1, 0] (.op 7 [0] (.op 8 [] (.op 9 [] (.op 10 [] .nil)))))))))))
def ord_12_15 : Ord := (.op 0 [] (.op 1 [0] (.op 2 [0] (.op 3 [0] (.op 4 [0] (.op 5 [4, 3, 2, 1, 0] (.op 6 [4, 3, 2, 1, 0] (.op 7 [4, 3, 2, 1, 0] (.op 8 [4, 3, 2, 1, 0] (.op 9 [0] (.op 10 [] (.op 11 [] (.op 12 [] .nil)))))))))))))
def ord_12_16 : Ord := (.op 0 [] (.op 1 [0] (.op 2 [0] (.op 3 [0] (.op 4 [0] (.op 5 [4, 3, 2, 1, 0] (.op 6 [5, 4, 3, 2, 1, 0] (.op 7 [4, 3, 2, 1, 0] (.op 8 [4, 3, 2, 1, 0] (.op 9 [0] (.op 10 [] (.op 11 [] (.op 12 [] .nil)))))))))))))

def dR0 (b : Nat) (j : Nat) : List Nat := match j with | 0 => [b] | _ => []
/-- A description's codec, or none. -/
def NewS (d : DescD) (r : AV) : Prop := (∃ e : Int, e ≠ 0 ∧ r = .tup [.t .nilp, .t (.int .i64 e)]) ∨
  (∃ (P : List PatD) (root : TreeD), CheckOK d ∧ P.length = d.forms.length ∧ (∀ (i : Nat) f p, d.forms[i]? = some f → P[i]? = some p → p.wf ∧ MadeS d f (.t p.t)) ∧ Finds P (List.range d.forms.length) root ∧ r = .tup [.t (codT d P root.t), .t (.int .i64 0)])
theorem NewS.noRef {d : DescD} : ∀ r, NewS d r → noRef r = true := by
  rintro r (⟨e, _, rfl⟩ | ⟨P, root, _, _, _, _, rfl⟩)
  · rfl
  · rfl

def nH (d : DescD) (K : List ClassD) (A : List FormD) (P : List PatD) : AH := [.box (descC d), .box [.sl 2 0 0 K.length, .sl 3 0 0 A.length, .sl 4 0 0 P.length, .t .nilp], .arr 63 7 true 0 (.ts (K.map classT)), .arr 39 1 true 0 (.ts (A.map fun f => .vecd 2 (f.args.map argT))), .arr 104 7 true 0 (.ts (P.map PatD.t))]

def nE (d : DescD) (a : AV) (i : Nat) : List (Nat × AV) := [(1, .ptr 0 0 0 0), (6, .ptr 1 0 0 0), (9, a), (45, .t (.vecd 5 (d.forms.map formT))), (46, .t (.int .i64 ((d.forms.map formT).length : Int))), (47, .t (.int .i64 ((i : Nat) : Int)))]
def nZ (d : DescD) (A : List FormD) (P : List PatD) : AH := [.box (descC d), .box [.t (.vecd 7 (d.classes.map classT)), .t (.vecd 1 (A.map fun f => .vecd 2 (f.args.map argT))), .t (.vecd 7 (P.map PatD.t)), .t .nilp], .dead, .dead, .dead, .dead]
def nS (d : DescD) (b : Bool) (i : Nat) (A : List FormD) (P : List PatD) (R : List Nat) : St :=
  match b with
  | false => ⟨nE d (.sl 5 0 0 R.length) i, nH d d.classes A P ++ [.arr tI 1 true 0 (.ts (natsT R))]⟩
  | true => ⟨nE d (.t (.vecd 1 (natsT R))) i, nZ d A P⟩
theorem nE_lk (d : DescD) (a b : AV) (i t : Nat) (h : t ≠ 9) : lk (nE d a i) t = lk (nE d b i) t := by
  have : Nat.beq 9 t = false := by
    cases h9 : Nat.beq 9 t with
    | false => rfl
    | true => exact absurd (Nat.eq_of_beq_eq_true h9).symm h
  simp only [nE, lk, this]
theorem all_take {l : List T} {n : Nat} (h : n = l.length) : (l.drop 0).take n = l := by rw [List.drop_zero, List.take_of_length_le (by omega)]
theorem froz {k0 : Nat} (d : DescD) (i : Nat) (A : List FormD) (P : List PatD) (R : List Nat) : Weak k0 (nS d false i A P R) (nS d true i A P R) := by
  refine weak_frz [2, 3, 4, 5] rfl (fun b blk' hb => ?_) (fun t => .inr ?_)
  · match b, hb with
    | 0, hb => cases hb; exact .inr ⟨by simp, _, rfl, .same _⟩
    | 1, hb =>
      cases hb
      refine .inr ⟨by simp, _, rfl, .box _ _ rfl fun j x x' hx hx' => ?_⟩
      match j, hx, hx' with
      | 0, hx, hx' => cases hx; cases hx'; exact .snapD _ _ _ [2] 2 rfl (.of_eq (congrArg (T.vecd 7) (all_take (by simp)))) (by simp)
      | 1, hx, hx' => cases hx; cases hx'; exact .snapD _ _ _ [3] 2 rfl (.of_eq (congrArg (T.vecd 1) (all_take (by simp)))) (by simp)
      | 2, hx, hx' => cases hx; cases hx'; exact .snapD _ _ _ [4] 2 rfl (.of_eq (congrArg (T.vecd 7) (all_take (by simp)))) (by simp)
      | 3, hx, hx' => cases hx; cases hx'; exact .same _
      | j + 4, hx, hx' => cases hx
    | 2, hb => cases hb; exact .inl rfl
    | 3, hb => cases hb; exact .inl rfl
    | 4, hb => cases hb; exact .inl rfl
    | 5, hb => cases hb; exact .inl rfl
    | b + 6, hb => cases hb
  · by_cases h9 : t = 9
    · subst h9
      exact .snapD _ _ _ [5] 2 rfl (.of_eq (congrArg (T.vecd 1) (all_take (by simp [natsT])))) (by simp)
    · show FrzA _ _ _ (lk (nE d _ i) t) (lk (nE d _ i) t)
      rw [nE_lk d _ (.t (.vecd 1 (natsT R))) i t h9]
      exact .same _
theorem to_nS {k0 : Nat} {s : St} {d : DescD} {i : Nat} {A : List FormD} {P : List PatD} {R : List Nat} (b : Bool) (h : Weak k0 s (nS d false i A P R)) : Weak k0 s (nS d b i A P R) := by
  cases b with
  | false => exact h
  | true => exact h.trans (froz d i A P R)

theorem new_runs (d : DescD) (hd : d.ok) (hs : ∀ f ∈ d.forms, sumL f.pieces ≤ 2000000000000) (hsc : d.classes.length ≤ 2000000) (hse : ∀ k ∈ d.classes, k.excl.length ≤ 2000000) : RunsX Tryz.prog 12 [descT d] (NewS d) := by
  refine RunsX.of_call ?_ NewS.noRef
  refine CallS.of_fn tabS_ok regS_ok Tryz.func12 rfl rfl ?_
  refine CallS.snapX (check_runs d hd hs) rfl ⟨.refl _, trivial⟩ (by rintro r ⟨n, e, rfl, _⟩; exact ⟨rfl, rfl, trivial⟩) ?_
  rintro _ ⟨n, e, rfl, he⟩
  refine br_intro (fun c => ?_) (fun c => ?_)
  · have c : e ≠ 0 := by simpa using c
    exact ⟨_, .inl ⟨e, c, rfl⟩, ⟨⟨_, _, rfl, .refl _⟩, ⟨_, _, rfl, .refl _⟩, trivial⟩, rfl⟩
  have hok : CheckOK d := he (by simpa using c)
  clear he c
  have hm1 : (d.classes.map classT).length = d.classes.length := by simp
  have hl1 : d.classes.length ≤ maxLen := hd.2.2.2.2.2.2.2.2.1
  refine loop_then (fun e s' => e = .exit 0 ∧ ∃ (b0 : AV) (i : Nat), s' = ⟨(26, b0) :: [(1, .ptr 0 0 0 0), (6, .ptr 1 0 0 0), (23, .t (.vecd 7 (d.classes.map classT))), (24, .t (.int .i64 ((d.classes.map classT).length : Int))), (25, .t (.int .i64 ((i : Nat) : Int)))], nH d d.classes [] [] ⟩) (fun HQ' HQ => ?_) ?_
  · refine loop_on (fun s : Nat × List ClassD => s.1 ≤ d.classes.length ∧ s.2 = d.classes.take s.1) (fun s => ⟨[(1, .ptr 0 0 0 0), (6, .ptr 1 0 0 0), (23, .t (.vecd 7 (d.classes.map classT))), (24, .t (.int .i64 ((d.classes.map classT).length : Int))), (25, .t (.int .i64 ((s.1 : Nat) : Int)))], nH d s.2 [] []⟩)
      (fun s => d.classes.length - s.1) (0, []) ⟨Nat.zero_le _, rfl⟩ ?_ (fun ⟨i, K⟩ ⟨hi, hK⟩ => ?_)
    · refine Weak.trans (weak_of (s' := ⟨[(1, .ptr 0 0 0 0), (6, .ptr 1 0 0 0), (23, .t (.vecd 7 (d.classes.map classT))), (24, .t (.int .i64 ((d.classes.map classT).length : Int))), (25, .t (.int .i64 ((0 : Nat) : Int)))], [.box (descC d), .box [.t .nils, .t .nils, .t .nils, .t .nilp]]⟩) ⟨rfl, rfl, rfl, rfl, rfl, trivial⟩ rfl) ?_
      refine Weak.trans (weak_row (.arr 63 7 true 0 (.ts []))) ?_
      refine Weak.trans (weak_row (.arr 39 1 true 0 (.ts []))) ?_
      refine Weak.trans (weak_row (.arr 104 7 true 0 (.ts []))) ?_
      refine weak_frz [] rfl (fun b blk' hb => .inr ⟨by simp, ?_⟩) (agree_frz ⟨rfl, rfl, rfl, rfl, rfl, trivial⟩)
      match b, hb with
      | 0, hb => cases hb; exact ⟨_, rfl, .same _⟩
      | 1, hb =>
        cases hb
        refine ⟨_, rfl, .box _ _ rfl fun j x x' hx hx' => ?_⟩
        match j, hx, hx' with
        | 0, hx, hx' => cases hx; cases hx'; exact .nil 2 _ _ rfl
        | 1, hx, hx' => cases hx; cases hx'; exact .nil 3 _ _ rfl
        | 2, hx, hx' => cases hx; cases hx'; exact .nil 4 _ _ rfl
        | 3, hx, hx' => cases hx; cases hx'; exact .same _
        | j + 4, hx, hx' => cases hx
      | 2, hb => cases hb; exact ⟨_, rfl, .same _⟩
      | 3, hb => cases hb; exact ⟨_, rfl, .same _⟩
      | 4, hb => cases hb; exact ⟨_, rfl, .same _⟩
      | b + 5, hb => cases hb
    have hi : i ≤ d.classes.length := hi
    have hK : K = d.classes.take i := hK
    have hKl : K.length ≤ d.classes.length := by rw [hK]; simp; omega
    refine br_intro (fun c => ?_) (fun c => ?_)
    rotate_left 1
    · have c : i = d.classes.length := by have := dge c; omega
      exact HQ _ _ ⟨rfl, _, i, by rw [hK, c, List.take_length]; rfl⟩
    have ci : i < d.classes.length := by have := dlt c; omega
    obtain ⟨k, hk, hkm⟩ := get_some (R := d.classes) (i := i) ci
    refine opt_intro (show (d.classes.map classT)[((i : Nat) : Int).toNat]? = some (classT k) from by rw [Int.toNat_natCast, List.getElem?_map, hk]; rfl) ?_
    refine CallS.pureX (cloneI_runs _ (by have := hse k hkm; simp; omega)) rfl ?_
    rintro _ rfl
    refine draw_introXS (dR0 2) ord_12_9 (by decide +kernel) ?_
    refine Or.inl (And.intro (by simp [Sq.length]) (ck_intro (show fitsRow (K.length + 1) 80 = true by simp [fitsRow]; omega) ?_))
    refine And.intro (fun j hj => by
      simp only [List.mem_cons, List.not_mem_nil, or_false] at hj
      rcases hj with rfl
      exact LeX.set _ (List.mem_singleton.2 rfl)) ?_
    refine And.intro (fun j hj => by cases hj) ?_
    refine st_intro (n := ((i + 1 : Nat) : Int)) (nat_in (n := i + 1) (by omega)) ?_
    have eL : K.length + 1 = (K ++ [k]).length := by simp
    have eA : K.map classT ++ [classT k] = (K ++ [k]).map classT := by simp
    refine ⟨⟨(i + 1, K ++ [k]), (show i + 1 ≤ d.classes.length ∧ K ++ [k] = d.classes.take (i + 1) from ⟨by omega, by rw [List.take_add_one, hk, hK]; rfl⟩)⟩, ?_, by show d.classes.length - (i + 1) < d.classes.length - i; omega⟩
    show Weak _ _ ⟨[(1, .ptr 0 0 0 0), (6, .ptr 1 0 0 0), (23, .t (.vecd 7 (d.classes.map classT))), (24, .t (.int .i64 ((d.classes.map classT).length : Int))), (25, .t (.int .i64 ((i + 1 : Nat) : Int)))], nH d (K ++ [k]) [] []⟩
    unfold nH
    rw [← eL, ← eA]
    exact weak_gc [0, 1, 2, 3, 4] rfl ⟨rfl, rfl, rfl, rfl, rfl, trivial⟩ ⟨rfl, rfl, rfl, rfl, rfl, trivial⟩
  rintro _ _ ⟨rfl, b0, i0, rfl⟩
  have hm2 : (d.forms.map formT).length = d.forms.length := by simp
  have hl2 : d.forms.length ≤ 512 := hok.parts.fl
  refine loop_then (fun e s' => e = .exit 2 ∧ ∃ (b0 : AV) (i : Nat) (P : List PatD), (P.length = d.forms.length ∧ ∀ (i : Nat) f p, d.forms[i]? = some f → P[i]? = some p → p.wf ∧ MadeS d f (.t p.t)) ∧ s' = ⟨(48, b0) :: nE d (.t (.vecd 1 (natsT (List.range d.forms.length)))) i, nZ d d.forms P⟩) (fun HQ' HQ => ?_) ?_
  · refine loop_on (fun s : Bool × Nat × List FormD × List PatD × List Nat => s.1 = decide (s.2.1 = d.forms.length) ∧ s.2.1 ≤ d.forms.length ∧ s.2.2.1 = d.forms.take s.2.1 ∧ (s.2.2.2.1.length = s.2.1 ∧ ∀ (i : Nat) f p, d.forms[i]? = some f → s.2.2.2.1[i]? = some p → p.wf ∧ MadeS d f (.t p.t)) ∧ s.2.2.2.2 = List.range s.2.1) (fun s => nS d s.1 s.2.1 s.2.2.1 s.2.2.2.1 s.2.2.2.2)
      (fun s => d.forms.length - s.2.1) (decide (0 = d.forms.length), 0, [], [], []) ⟨rfl, Nat.zero_le _, rfl, ⟨rfl, fun i f p _ h => by simp at h⟩, rfl⟩ ?_ (fun ⟨b, i, A, P, R⟩ ⟨hb', hi', hA', ⟨hPl', hP'⟩, hR'⟩ => ?_)
    · exact to_nS _ (weak_of ⟨rfl, rfl, rfl, rfl, rfl, rfl, trivial⟩ rfl)
    have hb : b = decide (i = d.forms.length) := hb'
    have hi : i ≤ d.forms.length := hi'
    have hA : A = d.forms.take i := hA'
    have hPl : P.length = i := hPl'
    have hP : ∀ (i : Nat) f p, d.forms[i]? = some f → P[i]? = some p → p.wf ∧ MadeS d f (.t p.t) := hP'
    have hR : R = List.range i := hR'
    have hAl : A.length = i := by rw [hA]; simp; omega
    have hRl : R.length = i := by rw [hR]; simp
    by_cases hin : i = d.forms.length
    · have hb : b = true := by rw [hb]; simp [hin]
      subst hb
      refine br_intro (fun c => ?_) (fun c => ?_)
      · have c' : i < (d.forms.map formT).length := dlt c
        omega
      · exact HQ _ _ ⟨rfl, _, i, P, ⟨by omega, hP⟩, by rw [hA, hR, hin, List.take_length]; rfl⟩
    have hb : b = false := by rw [hb]; simp [hin]
    subst hb
    refine br_intro (fun c => ?_) (fun c => ?_)
    rotate_left 1
    · have c' : (d.forms.map formT).length ≤ i := dge c
      omega
    have ci : i < d.forms.length := by omega
    obtain ⟨f, hf, hfm⟩ := get_some (R := d.forms) (i := i) ci
    refine opt_intro (show (d.forms.map formT)[((i : Nat) : Int).toNat]? = some (formT f) from by rw [Int.toNat_natCast, List.getElem?_map, hf]; rfl) ?_
    refine draw_introXS (dR0 3) ord_12_15 (by decide +kernel) ?_
    refine CallS.pureX (cloneA_runs f.args (by have := (hok.forms f hfm).args; omega)) rfl ?_
    rintro _ rfl
    conv => whnf
    refine And.intro (fun j hj => by first | exact LeX.refl _ _ | exact LeX.append _ _ _) ?_
    refine Or.inl (And.intro (by simp [Sq.length]) (ck_intro (show fitsRow (A.length + 1) 24 = true by simp [fitsRow]; omega) ?_))
    refine And.intro (fun j hj => by
      simp only [List.mem_cons, List.not_mem_nil, or_false] at hj
      rcases hj with rfl
      exact LeX.set _ (List.mem_singleton.2 rfl)) ?_
    refine And.intro (fun j hj => by cases hj) ?_
    refine draw_introXS (dR0 4) ord_12_16 (by decide +kernel) ?_
    refine CallS.frzX (made_runs d hd i f hf (hs f hfm) (hok.forms f hfm)) rfl ⟨.refl _, .refl _, trivial⟩ ?_
    rintro _ ⟨m0, m1, w0, w1, lz, C, rfl, hmade⟩
    obtain ⟨p, hp⟩ : ∃ p : PatD, p = ⟨(rawB f.pieces).length / 8, m0, m1, w0, w1, lz, C⟩ := ⟨_, rfl⟩
    have hpt : madeT ((rawB f.pieces).length / 8) m0 m1 w0 w1 lz C = p.t := by rw [hp]; rfl
    conv => whnf
    refine And.intro (fun j hj => by first | exact LeX.refl _ _ | exact LeX.append _ _ _) ?_
    refine Or.inl (And.intro (by simp [Sq.length]) (ck_intro (show fitsRow (P.length + 1) 72 = true by simp [fitsRow]; omega) ?_))
    refine And.intro (fun j hj => by
      simp only [List.mem_cons, List.not_mem_nil, or_false] at hj
      rcases hj with rfl
      exact LeX.set _ (List.mem_singleton.2 rfl)) ?_
    refine And.intro (fun j hj => by cases hj) ?_
    refine Or.inl (And.intro (by simp [Sq.length, natsT]) (ck_intro (fits8 (n := R.length + 1) (by omega)) ?_))
    refine st_intro (n := ((i + 1 : Nat) : Int)) (nat_in (n := i + 1) (by omega)) ?_
    have eL2 : A.length + 1 = (A ++ [f]).length := by simp
    have eA2 : (A.map fun f => T.vecd 2 (f.args.map argT)) ++ [.vecd 2 (f.args.map argT)] = (A ++ [f]).map fun f => T.vecd 2 (f.args.map argT) := by simp
    have eL3 : P.length + 1 = (P ++ [p]).length := by simp
    have eA3 : P.map PatD.t ++ [p.t] = (P ++ [p]).map PatD.t := by simp
    have eL4 : R.length + 1 = (R ++ [i]).length := by simp
    have eA4 : natsT R ++ [.int .i64 i] = natsT (R ++ [i]) := by simp [natsT]
    have hmade' : p.wf ∧ MadeS d f (.t p.t) := by
      rw [hp]
      exact ⟨⟨hmade.pat.mask.1, hmade.pat.mask.2.1, hmade.pat.want.1, hmade.pat.want.2.1⟩, ⟨m0, m1, w0, w1, lz, C, rfl, hmade⟩⟩
    refine ⟨⟨(decide (i + 1 = d.forms.length), i + 1, A ++ [f], P ++ [p], R ++ [i]), (show decide (i + 1 = d.forms.length) = decide (i + 1 = d.forms.length) ∧ i + 1 ≤ d.forms.length ∧ A ++ [f] = d.forms.take (i + 1) ∧ ((P ++ [p]).length = i + 1 ∧ ∀ (j : Nat) g q, d.forms[j]? = some g → (P ++ [p])[j]? = some q → q.wf ∧ MadeS d g (.t q.t)) ∧ R ++ [i] = List.range (i + 1) from ⟨rfl, by omega, by rw [List.take_add_one, hf, hA]; rfl, ⟨by simp [hPl], fun j g q hj hq => ?_⟩, by rw [hR, List.range_succ]⟩)⟩, ?_, by show d.forms.length - (i + 1) < d.forms.length - i; omega⟩
    · by_cases hji : j < P.length
      · rw [List.getElem?_append_left hji] at hq
        exact hP j g q hj hq
      · rw [List.getElem?_append_right (by omega)] at hq
        have hj0 : j - P.length = 0 := by
          have := lt_of_getElem? hq
          simp at this
          omega
        rw [hj0] at hq
        cases hq
        have hji : j = i := by omega
        rw [hji, hf] at hj
        cases hj
        exact hmade'
    refine to_nS _ ?_
    show Weak _ _ ⟨[(1, .ptr 0 0 0 0), (6, .ptr 1 0 0 0), (9, .sl 5 0 0 (R ++ [i]).length), (45, .t (.vecd 5 (d.forms.map formT))), (46, .t (.int .i64 ((d.forms.map formT).length : Int))), (47, .t (.int .i64 ((i + 1 : Nat) : Int)))], nH d d.classes (A ++ [f]) (P ++ [p]) ++ [.arr tI 1 true 0 (.ts (natsT (R ++ [i])))]⟩
    unfold nH
    rw [← eL2, ← eA2, ← eL3, ← eA3, ← eL4, ← eA4, ← hpt]
    exact weak_gc [0, 1, 2, 3, 4, 5] rfl ⟨rfl, rfl, rfl, rfl, rfl, rfl, trivial⟩ ⟨rfl, rfl, rfl, rfl, rfl, rfl, trivial⟩
  rintro _ _ ⟨rfl, b1, i1, P, ⟨hPl, hP⟩, rfl⟩
  have hwf : ∀ p ∈ P, p.wf := fun p hp => by
    obtain ⟨j, hj, hjp⟩ := List.getElem_of_mem hp
    exact (hP j (d.forms[j]'(by omega)) p (List.getElem?_eq_getElem _) (by rw [List.getElem?_eq_getElem hj, hjp])).1
  refine CallS.snapTree (grown_runs d P hwf (unasked 0 0 + 1) (List.range d.forms.length) 0 0 (by omega) (by decide) (by decide) (fun f hf => by have := List.mem_range.1 hf; omega) (by rw [List.length_range]; exact hl2)) rfl ⟨.refl _, .refl _, .refl _, trivial⟩ ?_ ?_ ?_
  · rintro r ⟨cs, t, rfl, ht, _⟩
    exact ⟨t, by rw [ht]⟩
  · intro b hb
    simp only [List.mem_cons, List.not_mem_nil, or_false, List.mem_append, List.append_nil, List.nil_append] at hb
    subst hb
    exact ⟨_, rfl, rfl⟩
  rintro _ ⟨cs, t, rfl, ht, hfind⟩
  exact ⟨_, .inr ⟨P, t, hok, hPl, hP, hfind, rfl⟩, ⟨⟨_, _, rfl, .of_eq (by rw [← ht]; rfl)⟩, ⟨_, _, rfl, .refl _⟩, trivial⟩, rfl⟩

end Go.Proofs.YtnjmeadmkbkikaaGreatDoor
