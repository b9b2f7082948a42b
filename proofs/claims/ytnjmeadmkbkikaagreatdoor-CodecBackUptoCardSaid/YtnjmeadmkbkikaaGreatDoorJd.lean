/-
  Encode: an instruction's bytes (walk).
-/
import Derived.Test.YtnjmeadmkbkikaaGreatDoorJA
import Derived.Test.YtnjmeadmkbkikaaGreatDoorHu
namespace Go.Proofs.YtnjmeadmkbkikaaGreatDoor
open Go.IntWalk
set_option maxRecDepth 100000
set_option linter.unusedVariables false
set_option linter.unusedSimpArgs false
set_option maxHeartbeats 8000000

def ord_13_1 : Ord := (.op 0 [] (.op 1 [] (.op 2 [] (.op 3 [] (.op 4 [] (.op 5 [] (.op 6 [5, 4] (.op 7 [5, 4] (.op 8 [5, 4] (.op 9 [5, 4] (.op 10 [5, 4] (.op 11 [] (.op 12 [] (.op 13 [] (.op 14 [] (.op 15 [] (.op 16 [] (.op 17 [16, 15, 14] (.op 18 [16, 15, 14] (.op 19 [16, 15, 14] (.op 20 [16, 15, 14] (.op 21 [20, 19, 18, 17, 16, 15, 14] (.op 22 [20, 19, 18, 17, 16, 15, 14] (.op 23 [16, 15, 14] (.op 24 [16, 15, 14] (.op 25 [16, 15, 14] (.op 26 [] (.op 27 [] .nil))))))))))))))))))))))))))))
def ord_13_3 : Ord := (.op 0 [] (.op 1 [] (.op 2 [] (.op 3 [] (.op 4 [3, 2, 1, 0] (.op 5 [3, 2, 1, 0] (.op 6 [] (.op 7 [] (.op 8 [7, 6, 5, 4, 3, 2, 1, 0] (.op 9 [] .nil))))))))))
def ord_13_5 : Ord := (.op 0 [] (.op 1 [] (.op 2 [] (.op 3 [] (.op 4 [3, 2, 1, 0] (.op 5 [3, 2, 1, 0] (.op 6 [] (.op 7 [] (.op 8 [] (.op 9 [8, 7, 6, 5, 4, 3, 2, 1, 0] .nil))))))))))
def ord_13_8 : Ord := (.op 0 [] (.op 1 [0] (.op 2 [0] (.op 3 [2, 1, 0] (.op 4 [2, 1, 0] (.op 5 [4, 3, 2, 1, 0] (.op 6 [2, 1, 0] (.op 7 [2, 1, 0] (.op 8 [] (.op 9 [] .nil))))))))))
def ord_13_10 : Ord := (.op 0 [] (.op 1 [] (.op 2 [] (.op 3 [] (.op 4 [3, 2, 1, 0] (.op 5 [3, 2, 1, 0] (.op 6 [] (.op 7 [] (.op 8 [7, 6, 5, 4, 3, 2, 1, 0] (.op 9 [7, 6, 5, 4, 3, 2, 1, 0] (.op 10 [9, 8, 7, 6, 5, 4, 3, 2, 1, 0] (.op 11 [7, 6, 5, 4, 3, 2, 1, 0] (.op 12 [7, 6, 5, 4, 3, 2, 1, 0] (.op 13 [] (.op 14 [] .nil)))))))))))))))
abbrev tU8 : Nat := 5
def insnT (fm : Int) (V : List Int) : T := .agg [.int .i64 fm, .vecd 1 (V.map (T.int .i64))]
def HasAll (d : DescD) (f : FormD) (V : List Int) : Prop := ∀ (j : Nat) a v, f.args[j]? = some a → V[j]? = some v → hasC d a.cls v = true
/-- An instruction's bytes, or why there are none. -/
def EncS (d : DescD) (fm : Int) (V : List Int) (r : AV) : Prop :=
  ((∀ (i : Nat) f, fm = (i : Int) → d.forms[i]? = some f → V.length ≠ f.args.length) ∧ r = .tup [.t (.vecd 1 []), .t (.int .i64 61)]) ∨
  (∃ (i : Nat) (f : FormD), fm = (i : Int) ∧ d.forms[i]? = some f ∧ V.length = f.args.length ∧ ¬ HasAll d f V ∧ r = .tup [.t (.vecd 1 []), .t (.int .i64 64)]) ∨
  (∃ (i : Nat) (f : FormD) (B : List UInt8), fm = (i : Int) ∧ d.forms[i]? = some f ∧ V.length = f.args.length ∧ HasAll d f V ∧ 8 * B.length = (formBits d f).length ∧ (∀ q, q < 8 * B.length → bitOf B q = outB d f V q) ∧ r = .tup [.t (.vecd 1 (bytesT B)), .t (.int .i64 0)])
theorem EncS.noRef {d : DescD} {fm : Int} {V : List Int} : ∀ r, EncS d fm V r → noRef r = true := by
  rintro r (⟨_, rfl⟩ | ⟨_, _, _, _, _, _, rfl⟩ | ⟨_, _, _, _, _, _, _, _, _, rfl⟩) <;> rfl

/-- A codec that was made of a description. -/
structure CodecOK (d : DescD) (P : List PatD) (root : TreeD) : Prop where
  ok : CheckOK d
  len : P.length = d.forms.length
  pats : ∀ (i : Nat) f p, d.forms[i]? = some f → P[i]? = some p → p.wf ∧ MadeS d f (.t p.t)
  finds : Finds P (List.range d.forms.length) root
theorem CodecOK.pat {d : DescD} {P : List PatD} {root : TreeD} (h : CodecOK d P root) {i : Nat} {f : FormD} (hf : d.forms[i]? = some f) : ∃ p, P[i]? = some p ∧ p.wf ∧ p.sz = (rawB f.pieces).length / 8 ∧ MadeOK d f p.m0 p.m1 p.w0 p.w1 p.lz p.rows := by
  have hl := (List.getElem?_eq_some_iff.1 hf).1
  obtain ⟨p, hp, _⟩ := get_some (R := P) (i := i) (by rw [h.len]; exact hl)
  obtain ⟨hw, m0, m1, w0, w1, lz, C, e, hm⟩ := h.pats i f p hf hp
  refine ⟨p, hp, hw, ?_⟩
  unfold PatD.t madeT at e
  injection e with e
  injection e with e
  simp only [List.cons.injEq, T.int.injEq, T.bool.injEq, T.vecd.injEq, true_and, and_true] at e
  obtain ⟨e1, e2, e3, e4, e5, e6, e7⟩ := e
  have hrows : p.rows = C := by
    have inj : ∀ (A B : List (List Int)), (A.map fun c => T.vecd 1 (c.map (T.int .i64))) = (B.map fun c => T.vecd 1 (c.map (T.int .i64))) → A = B := by
      intro A
      induction A with
      | nil => intro B h; cases B with | nil => rfl | cons => simp at h
      | cons a A ih =>
        intro B h
        cases B with
        | nil => simp at h
        | cons b B =>
          simp only [List.map_cons, List.cons.injEq, T.vecd.injEq, true_and] at h
          rw [ih B h.2]
          congr 1
          have inj2 : ∀ (x y : List Int), x.map (T.int .i64) = y.map (T.int .i64) → x = y := by
            intro x
            induction x with
            | nil => intro y h; cases y with | nil => rfl | cons => simp at h
            | cons u x ih2 =>
              intro y h
              cases y with
              | nil => simp at h
              | cons v y =>
                simp only [List.map_cons, List.cons.injEq, T.int.injEq, true_and] at h
                rw [h.1, ih2 y h.2]
          exact inj2 a b h.1
    exact inj _ _ e6
  have e2 : p.m0 = m0 := by omega
  have e3 : p.m1 = m1 := by omega
  have e4 : p.w0 = w0 := by omega
  have e5 : p.w1 = w1 := by omega
  exact ⟨by omega, by rw [e2, e3, e4, e5, e7, hrows]; exact hm⟩

abbrev enH (d : DescD) (fm : Int) (V : List Int) (p : PatD) (w0 w1 : Nat) (extra : AH) : AH :=
  .box [.t (.int .i64 fm), .t (.vecd 1 (V.map (T.int .i64)))] :: .box [.t (.int .i64 p.sz), .t (.int .u64 p.m0), .t (.int .u64 p.m1), .t (.int .u64 p.w0), .t (.int .u64 p.w1), .t (.vecd 1 (p.rows.map fun c => .vecd 1 (c.map (T.int .i64)))), .t (.bool p.lz)] :: .box [.t (.int .u64 ((w0 : Nat) : Int)), .t (.int .u64 ((w1 : Nat) : Int))] :: extra
abbrev enE (d : DescD) (P : List PatD) (root : T) (f : FormD) (i : Nat) (back : List (Nat × AV)) : List (Nat × AV) :=
  (0, .t (codT d P root)) :: (3, .ptr 0 0 0 0) :: (6, .ptr 1 0 0 0) :: (7, .ptr 2 0 0 0) :: (60, .t (.vecd 2 (f.args.map argT))) :: (61, .t (.int .i64 ((f.args.map argT).length : Int))) :: (62, .t (.int .i64 ((i : Nat) : Int))) :: back

theorem mkB1 {b : Int} (h : 0 ≤ b) (h2 : b ≤ 64) : (decide (0 ≤ b) && decide (b ≤ b) && decide (b * 1 ≤ 140737488355328) && decide (b ≤ 9223372036854775807) && true && true && true) = true := by simp; omega
def rowB (w0 w1 n i : Nat) : List UInt8 := outBytes w0 w1 i ++ List.replicate (n - i) 0
theorem rowB_len {w0 w1 n i : Nat} (h : i ≤ n) : (rowB w0 w1 n i).length = n := by simp [rowB, outBytes_len]; omega
theorem rowB_set {w0 w1 n i : Nat} (h : i < n) : (bytesT (rowB w0 w1 n i)).set i (T.int .u8 (wordByte w0 w1 i : Nat)) = bytesT (rowB w0 w1 n (i + 1)) := by
  unfold rowB bytesT
  have e1 : outBytes w0 w1 (i + 1) = outBytes w0 w1 i ++ [UInt8.ofNat (wordByte w0 w1 i)] := by unfold outBytes; rw [List.range_succ, List.map_append]; rfl
  have e2 : List.replicate (n - i) (0 : UInt8) = 0 :: List.replicate (n - (i + 1)) 0 := by rw [show n - i = (n - (i + 1)) + 1 by omega]; rfl
  rw [e1, e2, List.map_append, List.map_append, List.map_append, List.set_append_right _ _ (by simp [outBytes_len]), List.append_assoc]
  congr 1
  rw [List.length_map, outBytes_len, Nat.sub_self]
  simp only [List.map_cons, List.set_cons_zero, List.map_nil, List.cons_append, List.nil_append]
  rw [u8_nat (wordByte_lt _ _ _)]

theorem encode_runs (d : DescD) (hd : d.ok) (hcl : d.classes.length ≤ 2000000) (hse : ∀ k ∈ d.classes, k.excl.length ≤ 2000000) (P : List PatD) (root : TreeD) (hC : CodecOK d P root) (fm : Int) (hfm : I64 fm) (V : List Int) (hV : ∀ v ∈ V, I64 v) :
    RunsX Tryz.prog 13 [codT d P root.t, insnT fm V] (EncS d fm V) := by
  have hPl : (P.map PatD.t).length = d.forms.length := by rw [List.length_map, hC.len]
  have hVl : (V.map (T.int .i64)).length = V.length := List.length_map _
  refine RunsX.of_call ?_ EncS.noRef
  refine CallS.of_fn tabS_ok regS_ok Tryz.func13 rfl rfl ?_
  refine draw_introXS (fun _ => []) ord_13_1 (by decide +kernel) ?_
  refine br_intro (fun c => ?_) (fun c => ?_)
  · have c := of_decide_eq_true c
    exact ⟨_, .inl ⟨fun i f e => by omega, rfl⟩, ⟨⟨_, _, rfl, .refl _⟩, ⟨_, _, rfl, .refl _⟩, trivial⟩, rfl⟩
  have c := of_decide_eq_false c
  obtain ⟨i, rfl⟩ := Int.eq_ofNat_of_zero_le (show 0 ≤ fm by omega)
  refine br_intro (fun c2 => ?_) (fun c2 => ?_)
  · have c2 := of_decide_eq_true c2
    exact ⟨_, .inl ⟨fun i' f e hf => by
      have := (List.getElem?_eq_some_iff.1 hf).1
      omega, rfl⟩, ⟨⟨_, _, rfl, .refl _⟩, ⟨_, _, rfl, .refl _⟩, trivial⟩, rfl⟩
  have c2 : i < d.forms.length := by have := of_decide_eq_false c2; omega
  obtain ⟨f, hf, hfm'⟩ := get_some (R := d.forms) (i := i) c2
  have h6 : f.args.length ≤ 6 := (hC.ok.forms f hfm').args
  have hal : (f.args.map argT).length = f.args.length := List.length_map _
  have hfok : f.ok := hd.2.2.2.2.2.2.2.2.2.2.2.1 f hfm'
  have hG : GoodF d f := hC.ok.forms f hfm'
  have ga : (d.forms.map fun f => T.vecd 2 (f.args.map argT))[((i : Nat) : Int).toNat]? = some (.vecd 2 (f.args.map argT)) := by rw [Int.toNat_natCast, List.getElem?_map, hf]; rfl
  obtain ⟨p, hp, hpw, hpsz, hpm⟩ := hC.pat hf
  have gp : (P.map PatD.t)[((i : Nat) : Int).toNat]? = some p.t := by rw [Int.toNat_natCast, List.getElem?_map, hp]; rfl
  refine opt_intro ga ?_
  refine br_intro (fun c3 => ?_) (fun c3 => ?_)
  · have c3 : V.length ≠ f.args.length := by
      intro e
      rw [hVl, hal, e] at c3
      simp at c3
    exact ⟨_, .inl ⟨fun i' f' e hf' => by
      have : i' = i := by omega
      subst this
      rw [hf] at hf'; cases hf'
      exact c3, rfl⟩, ⟨⟨_, _, rfl, .refl _⟩, ⟨_, _, rfl, .refl _⟩, trivial⟩, rfl⟩
  have c3 : V.length = f.args.length := by rw [hVl, hal] at c3; simp at c3; omega
  refine draw_introXS (fun _ => []) ord_13_3 (by decide +kernel) ?_
  refine opt_intro gp ?_
  refine And.intro (fun j hj => by first | (cases hj; done) | exact LeX.append _ _ _ | exact LeX.refl _ _) ?_
  refine draw_introXS (fun _ => []) ord_13_5 (by decide +kernel) ?_
  refine opt_intro ga ?_
  have h120 := hG.len120
  have hszl : 8 * p.sz = (formBits d f).length := by rw [hpsz, formBits_len]; have := hG.m8; omega
  refine loop_then (fun e s' => (e = .exit 0 ∧ HasAll d f V ∧ ∃ (b0 : AV) (w0 w1 : Nat), Bits2 w0 w1 (outB d f V) ∧ s' = ⟨(63, b0) :: enE d P root.t f f.args.length [], enH d i V p w0 w1 []⟩) ∨ (e = .ret ∧ ¬ HasAll d f V ∧ ∃ env w0 w1 X, s' = ⟨(5, .t (.int .i64 64)) :: (4, .sl 4 0 0 0) :: env, enH d i V p w0 w1 [X, .arr tU8 1 true 0 (.ts [])]⟩)) (fun HQ' HQ => ?_) ?_
  · refine loop_on (fun s : Nat × Nat × Nat => s.1 ≤ f.args.length ∧ Bits2 s.2.1 s.2.2 (encB d f V s.1 0) ∧ ∀ (j : Nat) a v, j < s.1 → f.args[j]? = some a → V[j]? = some v → hasC d a.cls v = true) (fun s => ⟨enE d P root.t f s.1 [], enH d i V p s.2.1 s.2.2 []⟩)
      (fun s => f.args.length - s.1) (0, p.w0, p.w1) ⟨Nat.zero_le _, hpm.pat.want.congr fun q _ => (encB_zero hG q).symm, fun j a v h => absurd h (Nat.not_lt_zero _)⟩ ?_ (fun ⟨j, w0, w1⟩ ⟨hj, hB, hH⟩ => ?_)
    · exact weak_gc [0, 2, 3] rfl ⟨rfl, rfl, rfl, rfl, rfl, rfl, rfl, trivial⟩ ⟨rfl, rfl, rfl, trivial⟩
    have hj : j ≤ f.args.length := hj
    have hB : Bits2 w0 w1 (encB d f V j 0) := hB
    have hH : ∀ (j' : Nat) a v, j' < j → f.args[j']? = some a → V[j']? = some v → hasC d a.cls v = true := hH
    refine br_intro (fun c4 => ?_) (fun c4 => ?_)
    rotate_left 1
    · have c4 : j = f.args.length := by have := dge c4; omega
      subst c4
      exact HQ _ _ (.inl ⟨rfl, fun j a v ha hv => hH j a v (List.getElem?_eq_some_iff.1 ha).1 ha hv, _, w0, w1, hB, rfl⟩)
    have c4 : j < f.args.length := by have := dlt c4; omega
    obtain ⟨a, ha, ham⟩ := get_some (R := f.args) (i := j) c4
    obtain ⟨v, hv, hvm⟩ := get_some (R := V) (i := j) (by omega)
    obtain ⟨k, hk, hok⟩ := hG.aok a ham
    have hcls := at_lt hk
    obtain ⟨x, hx, _, hkg⟩ := at_some hcls
    obtain rfl : k = x := by rw [hk] at hx; exact Option.some.inj hx
    have hb : 1 ≤ k.bits ∧ k.bits ≤ 64 := by rcases hok with h | h | h <;> omega
    have gv : (V.map (T.int .i64))[((j : Nat) : Int).toNat]? = some (.int .i64 v) := by rw [Int.toNat_natCast, List.getElem?_map, hv]; rfl
    refine opt_intro (show (f.args.map argT)[((j : Nat) : Int).toNat]? = some (argT a) from by rw [Int.toNat_natCast, List.getElem?_map, ha]; rfl) ?_
    refine draw_introXS (fun _ => []) ord_13_8 (by decide +kernel) ?_
    refine opt_intro gv ?_
    refine CallS.frzG (has_runs d hcl hse hC.ok.parts.classes P root.t a.cls v (hfok.2.2.2.1 a ham).2 (hV v hvm)) rfl ⟨.refl _, .refl _, .refl _, trivial⟩ ?_
    have hhas : hasC d a.cls v = hasK k v := by rw [hasC, hk]
    rw [hhas]
    refine And.intro (fun j hj => by first | (cases hj; done) | exact LeX.append _ _ _ | exact LeX.refl _ _) ?_
    refine br_intro (fun c5 => ?_) (fun c5 => ?_)
    · have c5 : hasK k v = false := by simpa using c5
      exact HQ _ _ (.inr ⟨rfl, (fun h => by have := h j a v ha hv; rw [hhas, c5] at this; cases this), _, w0, w1, _, rfl⟩)
    have c5 : hasK k v = true := by simpa using c5
    obtain ⟨cc, hcc, _⟩ := get_some (R := p.rows) (i := j) (by rw [hpm.len]; exact c4)
    have hrow := hpm.rows j a k cc ha hk hcc
    have hop : opN d f V j = encN k v := opN_eq ha hk hv
    obtain ⟨e, he⟩ : ∃ e, e = encN k v := ⟨_, rfl⟩
    have he64 : e < 18446744073709551616 := by rw [he]; exact encN_lt k v
    have hvp : -9223372036854775808 ≤ v - k.plus := by
      rw [hasK, if_neg (hasK_mem c5)] at c5
      have hv64 := hV v hvm
      unfold I64 at hv64
      rcases hok with h | h | h
      · rw [if_pos h.1] at c5
        simp only [Bool.and_eq_true, decide_eq_true_iff] at c5
        omega
      · omega
      · omega
    have hcl' : (cc.map (T.int .i64)).length = cc.length := List.length_map _
    refine draw_introXS (fun _ => []) ord_13_10 (by decide +kernel) ?_
    refine ck_intro (ix0 rfl hcls.1) ?_
    refine opt_intro (row_get hkg) ?_
    refine opt_intro gv ?_
    have hen := encoded_runs d k hok v (hV v hvm) hvp
    rw [← he] at hen
    refine CallS.frzG hen rfl ⟨.refl _, .refl _, trivial⟩ ?_
    refine And.intro (fun j hj => by first | (cases hj; done) | exact LeX.append _ _ _ | exact LeX.refl _ _) ?_
    refine And.intro (fun j hj => by first | (cases hj; done) | exact LeX.append _ _ _ | exact LeX.refl _ _) ?_
    refine opt_intro (show (p.rows.map fun c => T.vecd 1 (c.map (T.int .i64)))[((j : Nat) : Int).toNat]? = some (T.vecd 1 (cc.map (T.int .i64))) from by rw [Int.toNat_natCast, List.getElem?_map, hcc]; rfl) ?_
    refine loop_then (fun e' s' => e' = .exit 2 ∧ ∃ (b0 : AV) (w0 w1 kk : Nat), Bits2 w0 w1 (encB d f V (j + 1) 0) ∧ s' = ⟨(98, b0) :: enE d P root.t f j ((9, .ptr 3 0 0 0) :: (10, .t (.int .u64 ((e : Nat) : Int))) :: (95, .t (.vecd 1 (cc.map (T.int .i64)))) :: (96, .t (.int .i64 ((cc.map (T.int .i64)).length : Int))) :: (97, .t (.int .i64 ((kk : Nat) : Int))) :: []), enH d i V p w0 w1 [.box [.t (.str a.name), .t (.int .i64 a.cls)]]⟩) (fun HQ2' HQ2 => ?_) ?_
    · refine loop_on (fun s : Nat × Nat × Nat => s.1 ≤ cc.length ∧ Bits2 s.2.1 s.2.2 (encB d f V j s.1)) (fun s => ⟨enE d P root.t f j ((9, .ptr 3 0 0 0) :: (10, .t (.int .u64 ((e : Nat) : Int))) :: (95, .t (.vecd 1 (cc.map (T.int .i64)))) :: (96, .t (.int .i64 ((cc.map (T.int .i64)).length : Int))) :: (97, .t (.int .i64 ((s.1 : Nat) : Int))) :: []), enH d i V p s.2.1 s.2.2 [.box [.t (.str a.name), .t (.int .i64 a.cls)]]⟩)
        (fun s => cc.length - s.1) (0, w0, w1) ⟨Nat.zero_le _, hB⟩ ?_ (fun ⟨kk, u0, u1⟩ ⟨hkk, hB2⟩ => ?_)
      · exact weak_of ⟨rfl, rfl, rfl, rfl, rfl, rfl, rfl, rfl, rfl, rfl, rfl, rfl, trivial⟩ rfl
      have hkk : kk ≤ cc.length := hkk
      have hB2 : Bits2 u0 u1 (encB d f V j kk) := hB2
      refine br_intro (fun c6 => ?_) (fun c6 => ?_)
      rotate_left 1
      · have c6 : kk = cc.length := by have := dge c6; omega
        exact HQ2 _ _ ⟨rfl, _, u0, u1, kk, hB2.congr fun q _ => encB_next hG ha hk (by rw [c6, hrow.1]; omega) q, rfl⟩
      have c6 : kk < cc.length := by have := dlt c6; omega
      obtain ⟨p0, y, hy, hya, hyn⟩ := hG.pos ha hk (m := kk) (by rw [hrow.1] at c6; omega)
      have hp0 := hrow.2 p0 y kk hy hya hyn
      have hp0l := (List.getElem?_eq_some_iff.1 hy).1
      have hstep := encB_step (V := V) hG hy hya hyn
      refine opt_intro (show (cc.map (T.int .i64))[((kk : Nat) : Int).toNat]? = some (.int .i64 ((p0 : Nat) : Int)) from by rw [Int.toNat_natCast, List.getElem?_map, hp0]; rfl) ?_
      obtain ⟨q, hq⟩ : ∃ q, q = e / 2 ^ kk := ⟨_, rfl⟩
      have hql : q ≤ e := by rw [hq]; exact Nat.div_le_self _ _
      obtain ⟨tb, htb⟩ : ∃ tb, tb = e.testBit kk := ⟨_, rfl⟩
      have hq2 : q % 2 = if tb then 1 else 0 := by rw [hq, nat_bit, htb]
      refine ck_intro (decide_eq_true (show (0 : Int) ≤ ((kk : Nat) : Int) by omega)) ?_
      refine st_intro (n := ((q : Nat) : Int)) (show ((e : Nat) : Int).fdiv (2 ^ (min ((kk : Nat) : Int).toNat IntKind.u64.bits)) = _ from by
        rw [Int.toNat_natCast, Nat.min_eq_left (show kk ≤ IntKind.u64.bits by show _ ≤ 64; omega), ← int_pow, Int.fdiv_eq_ediv_of_nonneg _ (Int.natCast_nonneg _), ← Int.natCast_ediv, hq]) ?_
      refine st_intro (n := b01 tb) (show bitsOp .and .u64 ((q : Nat) : Int) ((1 : Nat) : Int) = _ from by
        rw [u64and (by omega) (by decide), Nat.and_one_is_mod, hq2]; unfold b01; cases tb <;> rfl) ?_
      cases htbc : tb
      · have hB3 : Bits2 u0 u1 (encB d f V j (kk + 1)) := hB2.congr fun q _ => by rw [hstep q, hop, ← he, ← htb, htbc]; simp
        refine st_intro (n := ((kk + 1 : Nat) : Int)) (nat_in (n := kk + 1) (by omega)) ?_
        conv => whnf
        exact ⟨⟨(kk + 1, u0, u1), c6, hB3⟩, weak_of ⟨rfl, rfl, rfl, rfl, rfl, rfl, rfl, rfl, rfl, rfl, rfl, rfl, trivial⟩ rfl, by show cc.length - (kk + 1) < cc.length - kk; omega⟩
      · by_cases hp64 : p0 < 64
        · have hB3 : Bits2 (u0 ||| 2 ^ p0) u1 (encB d f V j (kk + 1)) := (hB2.set0 hp64).congr fun q _ => by rw [hstep q, hop, ← he, ← htb, htbc]; simp
          refine CallS.of_fn tabS_ok regS_ok Tryz.func39 rfl rfl ?_
          refine draw_introS ord_39_0 (by decide +kernel) ?_
          refine ck_intro rfl ?_
          refine st_intro (n := 0) (show IntKind.i64.wrap (((p0 : Nat) : Int).tdiv 64) = 0 from by rw [Int.tdiv_eq_ediv_of_nonneg (by omega), IntKind.wrap_i64]; omega) ?_
          refine ck_intro rfl ?_
          refine st_intro (n := ((p0 : Nat) : Int)) (show ((p0 : Nat) : Int).tmod 64 = _ from by rw [Int.tmod_eq_emod_of_nonneg (by omega)]; omega) ?_
          refine ck_intro (decide_eq_true (show (0 : Int) ≤ ((p0 : Nat) : Int) by omega)) ?_
          refine st_intro (n := ((2 ^ p0 : Nat) : Int)) (u64bit rfl (by omega)) ?_
          refine st_intro (n := ((u0 ||| 2 ^ p0 : Nat) : Int)) (u64or hB2.1 (pow64 (by omega))) ?_
          refine And.intro (fun j hj => by cases hj) ?_
          refine st_intro (n := ((kk + 1 : Nat) : Int)) (nat_in (n := kk + 1) (by omega)) ?_
          conv => whnf
          exact ⟨⟨(kk + 1, u0 ||| 2 ^ p0, u1), c6, hB3⟩, weak_gc [0, 1, 2, 3] rfl ⟨rfl, rfl, rfl, rfl, rfl, rfl, rfl, rfl, rfl, rfl, rfl, rfl, trivial⟩ ⟨rfl, rfl, rfl, rfl, trivial⟩, by show cc.length - (kk + 1) < cc.length - kk; omega⟩
        · obtain ⟨kq, hkq⟩ : ∃ kq, p0 = 64 + kq := ⟨p0 - 64, by omega⟩
          have hB3 : Bits2 u0 (u1 ||| 2 ^ kq) (encB d f V j (kk + 1)) := (hB2.set1 (i := kq) (by omega)).congr fun q _ => by rw [hstep q, hop, ← he, ← htb, htbc, hkq]; simp
          refine CallS.of_fn tabS_ok regS_ok Tryz.func39 rfl rfl ?_
          refine draw_introS ord_39_0 (by decide +kernel) ?_
          refine ck_intro rfl ?_
          refine st_intro (n := 1) (show IntKind.i64.wrap (((p0 : Nat) : Int).tdiv 64) = 1 from by rw [Int.tdiv_eq_ediv_of_nonneg (by omega), IntKind.wrap_i64]; omega) ?_
          refine ck_intro rfl ?_
          refine st_intro (n := ((kq : Nat) : Int)) (show ((p0 : Nat) : Int).tmod 64 = _ from by rw [Int.tmod_eq_emod_of_nonneg (by omega)]; omega) ?_
          refine ck_intro (decide_eq_true (show (0 : Int) ≤ ((kq : Nat) : Int) by omega)) ?_
          refine st_intro (n := ((2 ^ kq : Nat) : Int)) (u64bit rfl (by omega)) ?_
          refine st_intro (n := ((u1 ||| 2 ^ kq : Nat) : Int)) (u64or hB2.2.1 (pow64 (by omega))) ?_
          refine And.intro (fun j hj => by cases hj) ?_
          refine st_intro (n := ((kk + 1 : Nat) : Int)) (nat_in (n := kk + 1) (by omega)) ?_
          conv => whnf
          exact ⟨⟨(kk + 1, u0, u1 ||| 2 ^ kq), c6, hB3⟩, weak_gc [0, 1, 2, 3] rfl ⟨rfl, rfl, rfl, rfl, rfl, rfl, rfl, rfl, rfl, rfl, rfl, rfl, trivial⟩ ⟨rfl, rfl, rfl, rfl, trivial⟩, by show cc.length - (kk + 1) < cc.length - kk; omega⟩
    rintro _ _ ⟨rfl, b0, u0, u1, kk, hB2, rfl⟩
    refine st_intro (n := ((j + 1 : Nat) : Int)) (nat_in (n := j + 1) (by omega)) ?_
    conv => whnf
    exact ⟨⟨(j + 1, u0, u1), c4, hB2, fun j' a' v' hj' ha' hv' => by
      by_cases h : j' = j
      · subst h
        rw [ha] at ha'; cases ha'
        rw [hv] at hv'; cases hv'
        rw [hhas]; exact c5
      · exact hH j' a' v' (by omega) ha' hv'⟩, weak_gc [0, 1, 2] rfl ⟨rfl, rfl, rfl, rfl, rfl, rfl, rfl, trivial⟩ ⟨rfl, rfl, rfl, trivial⟩, by show f.args.length - (j + 1) < f.args.length - j; omega⟩
  rintro _ _ (⟨rfl, hall, b0, w0, w1, hB, rfl⟩ | ⟨rfl, hno, env, w0, w1, X, rfl⟩)
  rotate_left 1
  · exact ⟨_, .inr (.inl ⟨i, f, rfl, hf, c3, hno, rfl⟩), ⟨⟨_, _, rfl, .refl _⟩, ⟨_, _, rfl, .refl _⟩, trivial⟩, rfl⟩
  have hsz : p.sz ≤ 15 := by omega
  refine ck_intro (mkB1 (b := ((p.sz : Nat) : Int)) (by omega) (by omega)) ?_
  refine br_intro (fun c => absurd (of_decide_eq_true c) (by omega)) (fun _ => ?_)
  have hz : List.replicate ((p.sz : Nat) : Int).toNat (T.int .u8 0) = bytesT (rowB w0 w1 p.sz 0) := by rw [Int.toNat_natCast]; unfold rowB outBytes bytesT; simp
  refine loop_then (fun e s' => e = .exit 4 ∧ ∃ (b0 : AV), s' = ⟨[(117, b0), (7, .ptr 2 0 0 0), (13, .sl 3 0 0 p.sz), (115, .t (.int .i64 ((p.sz : Nat) : Int))), (116, .t (.int .i64 ((p.sz : Nat) : Int)))], enH d i V p w0 w1 [.arr tU8 1 false 0 (.ts (bytesT (rowB w0 w1 p.sz p.sz)))]⟩) (fun HQ' HQ => ?_) ?_
  · refine loop_on (fun jb : Nat => jb ≤ p.sz) (fun jb => ⟨[(7, .ptr 2 0 0 0), (13, .sl 3 0 0 p.sz), (115, .t (.int .i64 ((p.sz : Nat) : Int))), (116, .t (.int .i64 ((jb : Nat) : Int)))], enH d i V p w0 w1 [.arr tU8 1 false 0 (.ts (bytesT (rowB w0 w1 p.sz jb)))]⟩)
      (fun jb => p.sz - jb) 0 (Nat.zero_le _) ?_ (fun jb hjb => ?_)
    · exact weak_gc [0, 1, 2, 3] rfl ⟨rfl, congrArg (fun n : Nat => some (AV.sl 3 0 0 n)) (Int.toNat_natCast p.sz), congrArg (fun n : Nat => some (AV.t (T.int .i64 (n : Int)))) (Int.toNat_natCast p.sz), rfl, trivial⟩ ⟨rfl, rfl, rfl, congrArg (fun l => some (Blk.arr tU8 1 false 0 (.ts l))) hz, trivial⟩
    have hjb : jb ≤ p.sz := hjb
    have hbl : (bytesT (rowB w0 w1 p.sz jb)).length = p.sz := by unfold bytesT; rw [List.length_map, rowB_len hjb]
    refine br_intro (fun c7 => ?_) (fun c7 => ?_)
    rotate_left 1
    · have c7 : jb = p.sz := by have := of_decide_eq_false c7; omega
      subst c7
      exact HQ _ _ ⟨rfl, _, rfl⟩
    have hjb : jb < p.sz := by have := of_decide_eq_true c7; omega
    by_cases h8 : jb < 8
    · have hwb : wordByte w0 w1 jb = w0 / 2 ^ (8 * jb) % 256 := by unfold wordByte; rw [if_pos h8]
      obtain ⟨q, hq⟩ : ∃ q, q = w0 / 2 ^ (8 * jb) := ⟨_, rfl⟩
      obtain ⟨wb, hwbe⟩ : ∃ wb, wb = wordByte w0 w1 jb := ⟨_, rfl⟩
      rw [← hq, ← hwbe] at hwb
      have hset := rowB_set (w0 := w0) (w1 := w1) hjb
      rw [← hwbe] at hset
      have hset : (bytesT (rowB w0 w1 p.sz jb)).set (0 + ((jb : Nat) : Int).toNat) (T.int .u8 ((wb : Nat) : Int)) = bytesT (rowB w0 w1 p.sz (jb + 1)) := by rw [Int.toNat_natCast, Nat.zero_add]; exact hset
      refine ck_intro rfl ?_
      refine st_intro (n := 0) (show IntKind.i64.wrap (((jb : Nat) : Int).tdiv 8) = 0 from by rw [Int.tdiv_eq_ediv_of_nonneg (by omega), IntKind.wrap_i64]; omega) ?_
      refine ck_intro rfl ?_
      refine st_intro (n := ((jb : Nat) : Int)) (show ((jb : Nat) : Int).tmod 8 = _ from by rw [Int.tmod_eq_emod_of_nonneg (by omega)]; omega) ?_
      obtain ⟨j8, hj8⟩ : ∃ j8, j8 = 8 * jb := ⟨_, rfl⟩
      refine st_intro (n := ((j8 : Nat) : Int)) (show IntKind.i64.wrap (((jb : Nat) : Int) * 8) = _ from by rw [IntKind.wrap_i64]; omega) ?_
      refine ck_intro (decide_eq_true (show (0 : Int) ≤ ((j8 : Nat) : Int) by omega)) ?_
      refine st_intro (n := ((q : Nat) : Int)) (show ((w0 : Nat) : Int).fdiv (2 ^ (min ((j8 : Nat) : Int).toNat IntKind.u64.bits)) = _ from by
        rw [Int.toNat_natCast, Nat.min_eq_left (show j8 ≤ IntKind.u64.bits by show _ ≤ 64; omega), ← int_pow, Int.fdiv_eq_ediv_of_nonneg _ (Int.natCast_nonneg _), ← Int.natCast_ediv, hq, hj8]) ?_
      refine st_intro (n := ((wb : Nat) : Int)) (show IntKind.u8.wrap ((q : Nat) : Int) = _ from by rw [IntKind.wrap_u8]; omega) ?_
      refine ck_intro (inB1 rfl (by omega) (by omega)) ?_
      obtain ⟨x, hx, _⟩ := get_some (R := rowB w0 w1 p.sz jb) (i := jb) (by rw [rowB_len (by omega)]; exact hjb)
      refine opt_intro (map_getI (f := fun c : UInt8 => T.int .u8 c.toNat) (i := ((jb : Nat) : Int)) rfl hx) ?_
      refine st_intro (n := ((jb + 1 : Nat) : Int)) (nat_in (n := jb + 1) (by omega)) ?_
      conv => whnf
      exact ⟨⟨jb + 1, hjb⟩, weak_gc [0, 1, 2, 3] rfl ⟨rfl, rfl, rfl, rfl, trivial⟩ ⟨rfl, rfl, rfl, congrArg (fun l => some (Blk.arr tU8 1 false 0 (.ts l))) hset, trivial⟩, by show p.sz - (jb + 1) < p.sz - jb; omega⟩
    · obtain ⟨kb, hkb⟩ : ∃ kb, jb = 8 + kb := ⟨jb - 8, by omega⟩
      have hwb : wordByte w0 w1 jb = w1 / 2 ^ (8 * kb) % 256 := by unfold wordByte; rw [if_neg h8, show jb - 8 = kb by omega]
      obtain ⟨q, hq⟩ : ∃ q, q = w1 / 2 ^ (8 * kb) := ⟨_, rfl⟩
      obtain ⟨wb, hwbe⟩ : ∃ wb, wb = wordByte w0 w1 jb := ⟨_, rfl⟩
      rw [← hq, ← hwbe] at hwb
      have hset := rowB_set (w0 := w0) (w1 := w1) hjb
      rw [← hwbe] at hset
      have hset : (bytesT (rowB w0 w1 p.sz jb)).set (0 + ((jb : Nat) : Int).toNat) (T.int .u8 ((wb : Nat) : Int)) = bytesT (rowB w0 w1 p.sz (jb + 1)) := by rw [Int.toNat_natCast, Nat.zero_add]; exact hset
      refine ck_intro rfl ?_
      refine st_intro (n := 1) (show IntKind.i64.wrap (((jb : Nat) : Int).tdiv 8) = 1 from by rw [Int.tdiv_eq_ediv_of_nonneg (by omega), IntKind.wrap_i64]; omega) ?_
      refine ck_intro rfl ?_
      refine st_intro (n := ((kb : Nat) : Int)) (show ((jb : Nat) : Int).tmod 8 = _ from by rw [Int.tmod_eq_emod_of_nonneg (by omega)]; omega) ?_
      obtain ⟨j8, hj8⟩ : ∃ j8, j8 = 8 * kb := ⟨_, rfl⟩
      refine st_intro (n := ((j8 : Nat) : Int)) (show IntKind.i64.wrap (((kb : Nat) : Int) * 8) = _ from by rw [IntKind.wrap_i64]; omega) ?_
      refine ck_intro (decide_eq_true (show (0 : Int) ≤ ((j8 : Nat) : Int) by omega)) ?_
      refine st_intro (n := ((q : Nat) : Int)) (show ((w1 : Nat) : Int).fdiv (2 ^ (min ((j8 : Nat) : Int).toNat IntKind.u64.bits)) = _ from by
        rw [Int.toNat_natCast, Nat.min_eq_left (show j8 ≤ IntKind.u64.bits by show _ ≤ 64; omega), ← int_pow, Int.fdiv_eq_ediv_of_nonneg _ (Int.natCast_nonneg _), ← Int.natCast_ediv, hq, hj8]) ?_
      refine st_intro (n := ((wb : Nat) : Int)) (show IntKind.u8.wrap ((q : Nat) : Int) = _ from by rw [IntKind.wrap_u8]; omega) ?_
      refine ck_intro (inB1 rfl (by omega) (by omega)) ?_
      obtain ⟨x, hx, _⟩ := get_some (R := rowB w0 w1 p.sz jb) (i := jb) (by rw [rowB_len (by omega)]; exact hjb)
      refine opt_intro (map_getI (f := fun c : UInt8 => T.int .u8 c.toNat) (i := ((jb : Nat) : Int)) rfl hx) ?_
      refine st_intro (n := ((jb + 1 : Nat) : Int)) (nat_in (n := jb + 1) (by omega)) ?_
      conv => whnf
      exact ⟨⟨jb + 1, hjb⟩, weak_gc [0, 1, 2, 3] rfl ⟨rfl, rfl, rfl, rfl, trivial⟩ ⟨rfl, rfl, rfl, congrArg (fun l => some (Blk.arr tU8 1 false 0 (.ts l))) hset, trivial⟩, by show p.sz - (jb + 1) < p.sz - jb; omega⟩
  rintro _ _ ⟨rfl, b1, rfl⟩
  have hlen : (outBytes w0 w1 p.sz).length = p.sz := outBytes_len _ _ _
  have hrow : rowB w0 w1 p.sz p.sz = outBytes w0 w1 p.sz := by unfold rowB; simp
  refine ⟨_, .inr (.inr ⟨i, f, outBytes w0 w1 p.sz, rfl, hf, c3, hall, by rw [hlen]; exact hszl, fun q hq => by rw [hlen] at hq; rw [bitOf_out hq (by omega)]; exact bit2_of hB (by omega), rfl⟩), ⟨⟨_, _, rfl, ?_⟩, ⟨_, _, rfl, .refl _⟩, trivial⟩, rfl⟩
  rw [hrow, all_take (by unfold bytesT; rw [List.length_map, hlen])]
  exact .vec 1 _

end Go.Proofs.YtnjmeadmkbkikaaGreatDoor
