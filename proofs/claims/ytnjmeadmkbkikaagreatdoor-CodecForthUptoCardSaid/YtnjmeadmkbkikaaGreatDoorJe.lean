/-
  The values of a form's operands in a word (codec.fits: walk).
-/
import Derived.Test.YtnjmeadmkbkikaaGreatDoorJd
namespace Go.Proofs.YtnjmeadmkbkikaaGreatDoor
open Go.IntWalk
set_option maxRecDepth 100000
set_option linter.unusedVariables false
set_option linter.unusedSimpArgs false
set_option maxHeartbeats 8000000

def ord_44_14 : Ord := (.op 0 [] (.op 1 [] (.op 2 [] (.op 3 [] (.op 4 [3, 2, 1, 0] (.op 5 [3, 2, 1, 0] (.op 6 [] (.op 7 [] (.op 8 [7, 6, 5, 4, 3, 2, 1, 0] (.op 9 [] (.op 10 [] .nil)))))))))))
def ord_44_15 : Ord := (.op 0 [] (.op 1 [] (.op 2 [] (.op 3 [] (.op 4 [3, 2, 1, 0] (.op 5 [3, 2, 1, 0] (.op 6 [] (.op 7 [] (.op 8 [] (.op 9 [8, 7, 6, 5, 4, 3, 2, 1, 0] (.op 10 [] .nil)))))))))))
/-- The number that the first m bits of an operand make. -/
def IsNumM (A : List BitD) (j : Nat) (W : Nat → Bool) (m n : Nat) : Prop := ∀ t : Nat, n.testBit t = true ↔ t < m ∧ ∃ (p : Nat) (y : BitD), A[p]? = some y ∧ y.arg = (j : Int) ∧ y.num = (t : Int) ∧ W p = true
theorem IsNumM.zero (A : List BitD) (j : Nat) (W : Nat → Bool) : IsNumM A j W 0 0 := fun t => ⟨fun h => by simp at h, fun h => absurd h.1 (Nat.not_lt_zero _)⟩
theorem IsNumM.step {d : DescD} {f : FormD} (hG : GoodF d f) {j m n p : Nat} {W : Nat → Bool} {y : BitD} (h : IsNumM (formBits d f) j W m n) (hy : (formBits d f)[p]? = some y) (ha : y.arg = (j : Int)) (hn : y.num = (m : Int)) :
    IsNumM (formBits d f) j W (m + 1) (n ||| (if W p then 2 ^ m else 0)) := fun t => by
  have e : (n ||| (if W p then 2 ^ m else 0)).testBit t = (n.testBit t || (W p && decide (m = t))) := by
    cases hW : W p with
    | false => simp
    | true => rw [if_pos rfl, tb_orbit]; simp
  rw [e, Bool.or_eq_true, h t, Bool.and_eq_true, decide_eq_true_iff]
  constructor
  · rintro (⟨h1, h2⟩ | ⟨h1, rfl⟩)
    · exact ⟨by omega, h2⟩
    · exact ⟨Nat.lt_succ_self _, p, y, hy, ha, hn, h1⟩
  · rintro ⟨h1, p', y', h2, h3, h4, h5⟩
    by_cases ht : m = t
    · subst ht
      right
      refine ⟨?_, rfl⟩
      by_cases hpp : p' = p
      · subst hpp; exact h5
      · exact (hG.apartBits h2 hy hpp (by omega) ⟨by omega, by omega⟩).elim
    · left; exact ⟨by omega, p', y', h2, h3, h4, h5⟩
theorem IsNumM.all {d : DescD} {f : FormD} (hG : GoodF d f) {j m n : Nat} {W : Nat → Bool} {a : ArgD} {k : ClassD} (h : IsNumM (formBits d f) j W m n) (ha : f.args[j]? = some a) (hk : at? d.classes a.cls = some k) (hm : (m : Int) = k.bits) :
    IsNum (formBits d f) j W n ∧ n < 2 ^ m := by
  have key : IsNum (formBits d f) j W n := fun t => by
    rw [h t]
    constructor
    · rintro ⟨_, p, y, h1, h2, h3, h4⟩; exact ⟨p, y, h1, h2, h3, h4⟩
    · rintro ⟨p, y, h1, h2, h3, h4⟩
      refine ⟨?_, p, y, h1, h2, h3, h4⟩
      rcases hG.is_ h1 with ⟨e, _⟩ | ⟨_, i, a', k', q, e1, e2, e3, e4, e5, _⟩
      · omega
      · have : i = j := by omega
        subst this
        rw [ha] at e2; cases e2
        rw [hk] at e3; cases e3
        omega
  refine ⟨key, Nat.lt_pow_two_of_testBit n fun t ht => ?_⟩
  cases e : n.testBit t
  · rfl
  · have := ((h t).1 e).1; omega

def FitS (d : DescD) (f : FormD) (W : Nat → Bool) (hv : Nat) (r : AV) : Prop :=
  (¬ FitW d f W hv ∧ r = .tup [.t (.vecd 1 []), .t (.bool false)]) ∨ (∃ V : List Int, FitW d f W hv ∧ FitV d f W V ∧ r = .tup [.t (.vecd 1 (V.map (T.int .i64))), .t (.bool true)])
theorem FitS.noRef {d : DescD} {f : FormD} {W : Nat → Bool} {hv : Nat} : ∀ r, FitS d f W hv r → noRef r = true := by
  rintro r (⟨_, rfl⟩ | ⟨_, _, _, rfl⟩) <;> rfl

abbrev fiH (p : PatD) (w0 w1 : Nat) (R : List Int) (extra : AH) : AH :=
  .box [.t (.int .u64 ((w0 : Nat) : Int)), .t (.int .u64 ((w1 : Nat) : Int))] :: .box [.t (.int .i64 p.sz), .t (.int .u64 p.m0), .t (.int .u64 p.m1), .t (.int .u64 p.w0), .t (.int .u64 p.w1), .t (.vecd 1 (p.rows.map fun c => .vecd 1 (c.map (T.int .i64)))), .t (.bool p.lz)] :: .arr tI 1 true 0 (.ts (R.map (T.int .i64))) :: extra
abbrev fiE (d : DescD) (P : List PatD) (root : T) (f : FormD) (fm i : Nat) (R : List Int) (back : List (Nat × AV)) : List (Nat × AV) :=
  (0, .t (codT d P root)) :: (1, .t (.int .i64 ((fm : Nat) : Int))) :: (6, .ptr 0 0 0 0) :: (10, .ptr 1 0 0 0) :: (11, .sl 2 0 0 R.length) :: (59, .t (.vecd 2 (f.args.map argT))) :: (60, .t (.int .i64 ((f.args.map argT).length : Int))) :: (61, .t (.int .i64 ((i : Nat) : Int))) :: back

theorem codec_fits_runs (d : DescD) (hd : d.ok) (hcl : d.classes.length ≤ 2000000) (hse : ∀ k ∈ d.classes, k.excl.length ≤ 2000000) (P : List PatD) (root : TreeD) (hC : CodecOK d P root) (i : Nat) (f : FormD) (hf : d.forms[i]? = some f) (w0 w1 : Nat) (W : Nat → Bool) (hW : Bits2 w0 w1 W) (hv : Nat) (hhv : hv ≤ 15) :
    RunsX Tryz.prog 44 [codT d P root.t, .int .i64 i, wordT w0 w1, .int .i64 hv] (FitS d f W hv) := by
  have hfm' : f ∈ d.forms := List.mem_of_getElem? hf
  have hG : GoodF d f := hC.ok.forms f hfm'
  have h6 := hG.args
  have hfok : f.ok := hd.2.2.2.2.2.2.2.2.2.2.2.1 f hfm'
  have hal : (f.args.map argT).length = f.args.length := List.length_map _
  have h120 := hG.len120
  have ga : (d.forms.map fun f => T.vecd 2 (f.args.map argT))[((i : Nat) : Int).toNat]? = some (.vecd 2 (f.args.map argT)) := by rw [Int.toNat_natCast, List.getElem?_map, hf]; rfl
  obtain ⟨p, hp, hpw, hpsz, hpm⟩ := hC.pat hf
  have gp : (P.map PatD.t)[((i : Nat) : Int).toNat]? = some p.t := by rw [Int.toNat_natCast, List.getElem?_map, hp]; rfl
  have hszl : 8 * p.sz = (formBits d f).length := by rw [hpsz, formBits_len]; have := hG.m8; omega
  have hlit := litP_iff hG hpm.pat hW
  obtain ⟨x0, hx0⟩ : ∃ x0, x0 = w0 &&& p.m0 := ⟨_, rfl⟩
  obtain ⟨x1, hx1⟩ : ∃ x1, x1 = w1 &&& p.m1 := ⟨_, rfl⟩
  rw [← hx0, ← hx1] at hlit
  refine RunsX.of_call ?_ FitS.noRef
  refine CallS.of_fn tabS_ok regS_ok Tryz.func44 rfl rfl ?_
  refine opt_intro gp ?_
  refine br_intro (fun c => ?_) (fun c => ?_)
  · have c := of_decide_eq_true c
    exact ⟨_, .inl ⟨fun h => by have := h.1; omega, rfl⟩, ⟨⟨_, _, rfl, .refl _⟩, ⟨_, _, rfl, .refl _⟩, trivial⟩, rfl⟩
  have c := of_decide_eq_false c
  refine st_intro (n := ((x0 : Nat) : Int)) (by rw [hx0]; exact u64and hW.1 hpw.1) ?_
  refine br_intro (fun c1 => ?_) (fun c1 => ?_)
  · have c1 : x0 ≠ p.w0 := by
      intro e; rw [e] at c1; simp at c1
    exact ⟨_, .inl ⟨fun h => c1 (hlit.2 h.2.1).1, rfl⟩, ⟨⟨_, _, rfl, .refl _⟩, ⟨_, _, rfl, .refl _⟩, trivial⟩, rfl⟩
  have c1 : x0 = p.w0 := by simp at c1; omega
  refine st_intro (n := ((x1 : Nat) : Int)) (by rw [hx1]; exact u64and hW.2.1 hpw.2.1) ?_
  refine br_intro (fun c2 => ?_) (fun c2 => ?_)
  · have c2 : x1 ≠ p.w1 := by
      intro e; rw [e] at c2; simp at c2
    exact ⟨_, .inl ⟨fun h => c2 (hlit.2 h.2.1).2, rfl⟩, ⟨⟨_, _, rfl, .refl _⟩, ⟨_, _, rfl, .refl _⟩, trivial⟩, rfl⟩
  have c2 : x1 = p.w1 := by simp at c2; omega
  have hlitP := hlit.1 ⟨c1, c2⟩
  refine opt_intro ga ?_
  refine loop_then (fun e s' => (e = .exit 0 ∧ ∃ (b0 : AV) (R : List Int), FitV d f W R ∧ s' = ⟨(62, b0) :: fiE d P root.t f i f.args.length R [], fiH p w0 w1 R []⟩) ∨ (e = .ret ∧ ¬ FitW d f W hv ∧ ∃ env R X, s' = ⟨(9, .t (.bool false)) :: (8, .sl 4 0 0 0) :: env, fiH p w0 w1 R [X, .arr tI 1 true 0 (.ts [])]⟩)) (fun HQ' HQ => ?_) ?_
  · refine loop_on (fun s : Nat × List Int => s.1 ≤ f.args.length ∧ s.2.length = s.1 ∧ ∀ (j : Nat) a k v, f.args[j]? = some a → at? d.classes a.cls = some k → s.2[j]? = some v → ∃ n, n < 2 ^ k.bits.toNat ∧ IsNum (formBits d f) j W n ∧ v = valueV k n ∧ v ∉ k.excl) (fun s => ⟨fiE d P root.t f i s.1 s.2 [], fiH p w0 w1 s.2 []⟩)
      (fun s => f.args.length - s.1) (0, []) ⟨Nat.zero_le _, rfl, fun j a k v _ _ h => by simp at h⟩ ?_ (fun ⟨j, R⟩ ⟨hj, hRl, hR⟩ => ?_)
    · exact weak_gc [0, 2, 3] rfl ⟨rfl, rfl, rfl, rfl, rfl, rfl, rfl, rfl, trivial⟩ ⟨rfl, rfl, rfl, trivial⟩
    have hj : j ≤ f.args.length := hj
    have hRl : R.length = j := hRl
    have hR : ∀ (j' : Nat) a k v, f.args[j']? = some a → at? d.classes a.cls = some k → R[j']? = some v → ∃ n, n < 2 ^ k.bits.toNat ∧ IsNum (formBits d f) j' W n ∧ v = valueV k n ∧ v ∉ k.excl := hR
    refine br_intro (fun c4 => ?_) (fun c4 => ?_)
    rotate_left 1
    · have c4 : j = f.args.length := by have := dge c4; omega
      subst c4
      exact HQ _ _ (.inl ⟨rfl, _, R, ⟨hRl, hR⟩, rfl⟩)
    have c4 : j < f.args.length := by have := dlt c4; omega
    obtain ⟨a, ha, ham⟩ := get_some (R := f.args) (i := j) c4
    obtain ⟨k, hk, hok⟩ := hG.aok a ham
    have hcls := at_lt hk
    obtain ⟨x, hx, hxm, hkg⟩ := at_some hcls
    obtain rfl : k = x := by rw [hk] at hx; exact Option.some.inj hx
    have hb : 1 ≤ k.bits ∧ k.bits ≤ 64 := by rcases hok with h | h | h <;> omega
    obtain ⟨cc, hcc, _⟩ := get_some (R := p.rows) (i := j) (by rw [hpm.len]; exact c4)
    have hrow := hpm.rows j a k cc ha hk hcc
    have hcl' : (cc.map (T.int .i64)).length = cc.length := List.length_map _
    refine opt_intro (show (f.args.map argT)[((j : Nat) : Int).toNat]? = some (argT a) from by rw [Int.toNat_natCast, List.getElem?_map, ha]; rfl) ?_
    refine opt_intro (show (p.rows.map fun c => T.vecd 1 (c.map (T.int .i64)))[((j : Nat) : Int).toNat]? = some (T.vecd 1 (cc.map (T.int .i64))) from by rw [Int.toNat_natCast, List.getElem?_map, hcc]; rfl) ?_
    refine loop_then (fun e' s' => e' = .exit 2 ∧ ∃ (b0 : AV) (n kk : Nat), IsNumM (formBits d f) j W cc.length n ∧ s' = ⟨(73, b0) :: fiE d P root.t f i j R ((13, .ptr 3 0 0 0) :: (14, .t (.int .u64 ((n : Nat) : Int))) :: (70, .t (.vecd 1 (cc.map (T.int .i64)))) :: (71, .t (.int .i64 ((cc.map (T.int .i64)).length : Int))) :: (72, .t (.int .i64 ((kk : Nat) : Int))) :: []), fiH p w0 w1 R [.box [.t (.str a.name), .t (.int .i64 a.cls)]]⟩) (fun HQ2' HQ2 => ?_) ?_
    · refine loop_on (fun s : Nat × Nat => s.1 ≤ cc.length ∧ IsNumM (formBits d f) j W s.1 s.2 ∧ s.2 < 18446744073709551616) (fun s => ⟨fiE d P root.t f i j R ((13, .ptr 3 0 0 0) :: (14, .t (.int .u64 ((s.2 : Nat) : Int))) :: (70, .t (.vecd 1 (cc.map (T.int .i64)))) :: (71, .t (.int .i64 ((cc.map (T.int .i64)).length : Int))) :: (72, .t (.int .i64 ((s.1 : Nat) : Int))) :: []), fiH p w0 w1 R [.box [.t (.str a.name), .t (.int .i64 a.cls)]]⟩)
        (fun s => cc.length - s.1) (0, 0) ⟨Nat.zero_le _, IsNumM.zero _ _ _, by decide⟩ ?_ (fun ⟨kk, n⟩ ⟨hkk, hN, hn64⟩ => ?_)
      · exact weak_of ⟨rfl, rfl, rfl, rfl, rfl, rfl, rfl, rfl, rfl, rfl, rfl, rfl, rfl, trivial⟩ rfl
      have hkk : kk ≤ cc.length := hkk
      have hN : IsNumM (formBits d f) j W kk n := hN
      have hn64 : n < 18446744073709551616 := hn64
      refine br_intro (fun c6 => ?_) (fun c6 => ?_)
      rotate_left 1
      · have c6 : kk = cc.length := by have := dge c6; omega
        exact HQ2 _ _ ⟨rfl, _, n, kk, by rw [← c6]; exact hN, rfl⟩
      have c6 : kk < cc.length := by have := dlt c6; omega
      obtain ⟨p0, y, hy, hya, hyn⟩ := hG.pos ha hk (m := kk) (by rw [hrow.1] at c6; omega)
      have hp0 := hrow.2 p0 y kk hy hya hyn
      have hp0l := (List.getElem?_eq_some_iff.1 hy).1
      have hstep := hN.step hG hy hya hyn
      have hb2 : bit2 w0 w1 p0 = W p0 := bit2_of hW (by omega)
      have hget := get_runs w0 w1 hW.1 hW.2.1 p0 (by omega)
      rw [hb2] at hget
      obtain ⟨tb, htb⟩ : ∃ tb, tb = W p0 := ⟨_, rfl⟩
      rw [← htb] at hget hstep
      have hk64 : kk < 64 := by rw [hrow.1] at c6; omega
      refine opt_intro (show (cc.map (T.int .i64))[((kk : Nat) : Int).toNat]? = some (.int .i64 ((p0 : Nat) : Int)) from by rw [Int.toNat_natCast, List.getElem?_map, hp0]; rfl) ?_
      refine CallS.frzG hget rfl ⟨.refl _, .refl _, trivial⟩ ?_
      refine ck_intro (decide_eq_true (show (0 : Int) ≤ ((kk : Nat) : Int) by omega)) ?_
      obtain ⟨sh, hsh⟩ : ∃ sh : Nat, sh = if tb then 2 ^ kk else 0 := ⟨_, rfl⟩
      have hsh64 : sh < 18446744073709551616 := by rw [hsh]; split; exact pow64 hk64; decide
      obtain ⟨n2, hn2⟩ : ∃ n2, n2 = n ||| sh := ⟨_, rfl⟩
      have hn264 : n2 < 18446744073709551616 := by rw [hn2]; exact Nat.or_lt_two_pow (n := 64) hn64 hsh64
      rw [← hsh, ← hn2] at hstep
      refine st_intro (n := ((sh : Nat) : Int)) (by
        rw [hsh]
        cases tb with
        | false => show IntKind.u64.wrap (0 * _) = _; rw [Int.zero_mul]; rfl
        | true => exact u64bit rfl hk64) ?_
      refine st_intro (n := ((n2 : Nat) : Int)) (by rw [hn2]; exact u64or hn64 hsh64) ?_
      refine st_intro (n := ((kk + 1 : Nat) : Int)) (nat_in (n := kk + 1) (by omega)) ?_
      conv => whnf
      exact ⟨⟨(kk + 1, n2), c6, hstep, hn264⟩, weak_of ⟨rfl, rfl, rfl, rfl, rfl, rfl, rfl, rfl, rfl, rfl, rfl, rfl, rfl, trivial⟩ rfl, by show cc.length - (kk + 1) < cc.length - kk; omega⟩
    rintro _ _ ⟨rfl, b0, n, kk, hN, rfl⟩
    obtain ⟨hnum, hnlt⟩ := hN.all hG ha hk (by rw [hrow.1]; omega)
    rw [hrow.1] at hnlt
    obtain ⟨vv, hvv⟩ : ∃ vv, vv = valueV k n := ⟨_, rfl⟩
    have hdec := decoded_runs d k hok n hnlt
    rw [← hvv] at hdec
    refine draw_introXS (fun _ => []) ord_44_14 (by decide +kernel) ?_
    refine ck_intro (ix0 rfl hcls.1) ?_
    refine opt_intro (row_get hkg) ?_
    refine CallS.frzG hdec rfl ⟨.refl _, .refl _, trivial⟩ ?_
    refine And.intro (fun j hj => by first | (cases hj; done) | exact LeX.append _ _ _ | exact LeX.refl _ _) ?_
    refine And.intro (fun j hj => by first | (cases hj; done) | exact LeX.append _ _ _ | exact LeX.refl _ _) ?_
    have hexl := hse k hxm
    refine draw_introXS (fun _ => []) ord_44_15 (by decide +kernel) ?_
    refine ck_intro (ix0 rfl hcls.1) ?_
    refine opt_intro (row_get hkg) ?_
    refine CallS.frzG (contains_ints k.excl vv (by omega)) rfl ⟨.refl _, .refl _, trivial⟩ ?_
    refine And.intro (fun j hj => by first | (cases hj; done) | exact LeX.append _ _ _ | exact LeX.refl _ _) ?_
    refine br_intro (fun ce => ?_) (fun ce => ?_)
    · have ce : vv ∈ k.excl := of_decide_eq_true ce
      exact HQ _ _ (.inr ⟨rfl, (fun h => h.2.2 j a k n ha hk hnum (by rw [← hvv]; exact ce)), _, R, _, rfl⟩)
    have ce : vv ∉ k.excl := of_decide_eq_false ce
    refine Or.inl (And.intro (by simp [Sq.length]) (ck_intro (fits8 (n := R.length + 1) (by omega)) ?_))
    refine st_intro (n := ((j + 1 : Nat) : Int)) (nat_in (n := j + 1) (by omega)) ?_
    have eL : R.length + 1 = (R ++ [vv]).length := by simp
    have eA : R.map (T.int .i64) ++ [.int .i64 vv] = (R ++ [vv]).map (T.int .i64) := by simp
    conv => whnf
    refine ⟨⟨(j + 1, R ++ [vv]), (show j + 1 ≤ f.args.length ∧ (R ++ [vv]).length = j + 1 ∧ ∀ (j' : Nat) a k v, f.args[j']? = some a → at? d.classes a.cls = some k → (R ++ [vv])[j']? = some v → ∃ n, n < 2 ^ k.bits.toNat ∧ IsNum (formBits d f) j' W n ∧ v = valueV k n ∧ v ∉ k.excl from ⟨c4, by simp [hRl], fun j' a' k' v' ha' hk' hv' => ?_⟩)⟩, ?_, by show f.args.length - (j + 1) < f.args.length - j; omega⟩
    · by_cases hjj : j' < R.length
      · rw [List.getElem?_append_left hjj] at hv'
        exact hR j' a' k' v' ha' hk' hv'
      · rw [List.getElem?_append_right (by omega)] at hv'
        have h0 : j' - R.length = 0 := by
          have := lt_of_getElem? hv'
          simp at this
          omega
        rw [h0] at hv'
        cases hv'
        have hjj' : j' = j := by omega
        subst hjj'
        rw [ha] at ha'; cases ha'
        rw [hk] at hk'; cases hk'
        exact ⟨n, hnlt, hnum, hvv, ce⟩
    show Weak _ _ ⟨fiE d P root.t f i (j + 1) (R ++ [vv]) [], fiH p w0 w1 (R ++ [vv]) []⟩
    unfold fiE fiH
    rw [← eL, ← eA]
    exact weak_gc [0, 1, 2] rfl ⟨rfl, rfl, rfl, rfl, rfl, rfl, rfl, rfl, trivial⟩ ⟨rfl, rfl, rfl, trivial⟩
  rintro _ _ (⟨rfl, b0, R, hR, rfl⟩ | ⟨rfl, hno, env, R, X, rfl⟩)
  · refine ⟨_, .inr ⟨R, ⟨by omega, hlitP, fun j a k n ha hk hn => ?_⟩, hR, rfl⟩, ⟨⟨_, _, rfl, ?_⟩, ⟨_, _, rfl, .refl _⟩, trivial⟩, rfl⟩
    · have hj := (List.getElem?_eq_some_iff.1 ha).1
      obtain ⟨v, hvj, _⟩ := get_some (R := R) (i := j) (by rw [hR.1]; exact hj)
      obtain ⟨n', _, h2, h3, h4⟩ := hR.2 j a k v ha hk hvj
      rw [hn.uniq h2, ← h3]; exact h4
    · rw [all_take (by simp)]; exact .refl _
  · exact ⟨_, .inl ⟨hno, rfl⟩, ⟨⟨_, _, rfl, .refl _⟩, ⟨_, _, rfl, .refl _⟩, trivial⟩, rfl⟩

end Go.Proofs.YtnjmeadmkbkikaaGreatDoor
