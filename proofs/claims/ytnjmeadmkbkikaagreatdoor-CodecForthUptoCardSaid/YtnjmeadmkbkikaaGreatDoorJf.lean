/-
  Decode: the instruction with which bytes begin (walk).
-/
import Derived.Test.YtnjmeadmkbkikaaGreatDoorJe
namespace Go.Proofs.YtnjmeadmkbkikaaGreatDoor
open Go.IntWalk
set_option maxRecDepth 100000
set_option linter.unusedVariables false
set_option linter.unusedSimpArgs false
set_option maxHeartbeats 8000000

def ord_15_6 : Ord := (.op 0 [] (.op 1 [] (.op 2 [] (.op 3 [] (.op 4 [3, 2, 1, 0] (.op 5 [3, 2, 1, 0] (.op 6 [5, 4, 3, 2, 1, 0] (.op 7 [5, 4, 3, 2, 1, 0] (.op 8 [5, 4, 3, 2, 1, 0] (.op 9 [3, 2, 1, 0] (.op 10 [] (.op 11 [] (.op 12 [] .nil)))))))))))))
def ord_15_10 : Ord := (.op 0 [] (.op 1 [0] (.op 2 [1, 0] (.op 3 [1, 0] (.op 4 [1, 0] (.op 5 [1, 0] (.op 7 [5, 4, 3, 2, 1] (.op 8 [5, 4, 3, 2, 1] (.op 6 [8, 7, 0] (.op 9 [] (.op 10 [] (.op 11 [] .nil))))))))))))
def ord_15_16 : Ord := (.op 0 [] (.op 1 [0] (.op 2 [] (.op 3 [2, 1, 0] (.op 4 [2, 1, 0] (.op 5 [2, 1, 0] (.op 6 [2, 1, 0] (.op 7 [6, 5, 4, 3, 2, 1, 0] (.op 8 [2, 1, 0] (.op 9 [2, 1, 0] (.op 10 [2, 1, 0] (.op 11 [10, 9, 8, 7, 6, 5, 4, 3] (.op 12 [] (.op 13 [] .nil))))))))))))))
/-- The instruction with which bytes begin, or that there is none. -/
def DecS (d : DescD) (b : List UInt8) (r : AV) : Prop :=
  (∃ (i : Nat) (f : FormD) (V : List Int), d.forms[i]? = some f ∧ FitsP d f b ∧ FitV d f (bytB b (min b.length 15)) V ∧ r = .tup [.t (insnT i V), .t (.int .i64 (((formBits d f).length / 8 : Nat) : Int)), .t (.int .i64 0)]) ∨
  ((∀ (i : Nat) f, d.forms[i]? = some f → ¬ FitsP d f b) ∧ r = .tup [.t (insnT 0 []), .t (.int .i64 0), .t (.int .i64 62)])
theorem DecS.noRef {d : DescD} {b : List UInt8} : ∀ r, DecS d b r → noRef r = true := by
  rintro r (⟨_, _, _, _, _, _, rfl⟩ | ⟨_, rfl⟩) <;> rfl

abbrev deH (w0 w1 : Nat) : AH := [.box [.t (.int .i64 0), .t .nils], .box [.t (.int .u64 ((w0 : Nat) : Int)), .t (.int .u64 ((w1 : Nat) : Int))]]

def dS0 (l : List Nat) (j : Nat) : List Nat := if l.contains j then [0] else []
/-- How high a tree is. -/
def TreeD.high : TreeD → Nat
  | .leaf _ => 0
  | .fork _ l r => l.high + r.high + 1
/-- Bits that have the literals agree with the pattern. -/
theorem fits_of_lit {d : DescD} {f : FormD} (hG : GoodF d f) {p : PatD} {W : Nat → Bool} (hp : PatOK (formBits d f) (formBits d f).length p.m0 p.m1 p.w0 p.w1) (h : LitP d f W) : p.fits W := fun q hq hm => by
  rw [bit2_of hp.mask (by omega)] at hm
  rw [bit2_of hp.want (by omega)]
  obtain ⟨x, hx, hl⟩ := litTo_true hm
  rw [oneTo_lit hx hl]
  have h1 := h q x hx
  rcases (hG.is_ hx).lit hl with e | e
  · rw [h1.1 e]; simp [e]
  · rw [h1.2 e]; simp [e]

theorem decode_runs (d : DescD) (hd : d.ok) (hcl : d.classes.length ≤ 2000000) (hse : ∀ k ∈ d.classes, k.excl.length ≤ 2000000) (P : List PatD) (root : TreeD) (hC : CodecOK d P root) (b : List UInt8) (hbl : b.length ≤ 1000000000000) :
    RunsX Tryz.prog 15 [codT d P root.t, .vecd 1 (bytesT b)] (DecS d b) := by
  have hbt : (bytesT b).length = b.length := List.length_map _
  obtain ⟨hv, hhv⟩ : ∃ hv, hv = min b.length 15 := ⟨_, rfl⟩
  have hhv15 : hv ≤ 15 ∧ hv ≤ b.length := by omega
  obtain ⟨cs, hcs⟩ : ∃ cs, root.t = T.iptr cs := by cases root <;> exact ⟨_, rfl⟩
  rw [hcs]
  refine RunsX.of_call ?_ DecS.noRef
  refine CallS.of_fn tabS_ok regS_ok Tryz.func15 rfl rfl ?_
  have hmin : (min (((bytesT b).length : Nat) : Int) 15) = (hv : Int) := by rw [hbt]; omega
  obtain ⟨bb, hbb⟩ : ∃ bb, bb = b.take hv := ⟨_, rfl⟩
  have hbbl : (bytesT bb).length = hv := by rw [hbb]; unfold bytesT; rw [List.length_map, List.length_take]; omega
  have e21 : ((bytesT b).drop 0).take ((min (((bytesT b).length : Nat) : Int) 15).toNat - 0) = bytesT bb := by
    rw [hmin, Int.toNat_natCast, Nat.sub_zero, List.drop_zero, hbb]; unfold bytesT; rw [List.map_take]
  have e22 : (((((bytesT b).drop 0).take ((min (((bytesT b).length : Nat) : Int) 15).toNat - 0)).length : Nat) : Int) = (((bytesT bb).length : Nat) : Int) := by rw [e21]
  refine ck_intro (show (decide (0 ≤ min (((bytesT b).length : Nat) : Int) 15) && decide (min (((bytesT b).length : Nat) : Int) 15 ≤ (((bytesT b).length : Nat) : Int))) = true from by rw [hmin, hbt]; simp; omega) ?_
  refine loop_then (fun e s' => e = .exit 0 ∧ ∃ (b0 : AV) (w0 w1 : Nat), Bits2 w0 w1 (bytB b hv) ∧ s' = ⟨(24, b0) :: [(0, .t (codT d P (.iptr cs))), (4, .ptr 0 0 0 0), (5, .t (.int .i64 0)), (6, .t (.int .i64 0)), (7, .ptr 1 0 0 0), (8, .t (.int .i64 ((hv : Nat) : Int))), (21, .t (.vecd 1 (bytesT bb))), (22, .t (.int .i64 (((bytesT bb).length : Nat) : Int))), (23, .t (.int .i64 ((hv : Nat) : Int)))], deH w0 w1⟩) (fun HQ' HQ => ?_) ?_
  · refine loop_on (fun s : Nat × Nat × Nat => s.1 ≤ hv ∧ Bits2 s.2.1 s.2.2 (bytB b s.1)) (fun s => ⟨[(0, .t (codT d P (.iptr cs))), (4, .ptr 0 0 0 0), (5, .t (.int .i64 0)), (6, .t (.int .i64 0)), (7, .ptr 1 0 0 0), (8, .t (.int .i64 ((hv : Nat) : Int))), (21, .t (.vecd 1 (bytesT bb))), (22, .t (.int .i64 (((bytesT bb).length : Nat) : Int))), (23, .t (.int .i64 ((s.1 : Nat) : Int)))], deH s.2.1 s.2.2⟩)
      (fun s => hv - s.1) (0, 0, 0) ⟨Nat.zero_le _, Bits2.zero.congr fun q _ => by unfold bytB; simp⟩ ?_ (fun ⟨n, w0, w1⟩ ⟨hn, hB⟩ => ?_)
    · exact weak_gc [0, 1] rfl ⟨rfl, rfl, rfl, rfl, rfl, congrArg (fun n => some (AV.t (T.int .i64 n))) hmin, congrArg (fun l => some (AV.t (T.vecd 1 l))) e21, congrArg (fun n => some (AV.t (T.int .i64 n))) e22, rfl, trivial⟩ ⟨rfl, rfl, trivial⟩
    have hn : n ≤ hv := hn
    have hB : Bits2 w0 w1 (bytB b n) := hB
    refine br_intro (fun c => ?_) (fun c => ?_)
    rotate_left 1
    · have c : n = hv := by have := of_decide_eq_false c; rw [hbbl] at this; have : ¬ (n : Int) < (hv : Int) := this; omega
      subst c
      exact HQ _ _ ⟨rfl, _, w0, w1, hB, rfl⟩
    have hnv : n < hv := by have := of_decide_eq_true c; rw [hbbl] at this; have : (n : Int) < (hv : Int) := this; omega
    obtain ⟨x, hx, _⟩ := get_some (R := b) (i := n) (by omega)
    have hx8 : x.toNat < 256 := x.toNat_lt
    refine opt_intro (show (bytesT bb)[((n : Nat) : Int).toNat]? = some (T.int .u8 ((x.toNat : Nat) : Int)) from by rw [Int.toNat_natCast, hbb]; unfold bytesT; rw [List.getElem?_map, List.getElem?_take_of_lt hnv, hx]; rfl) ?_
    refine draw_introS ord_15_6 (by decide +kernel) ?_
    by_cases h8 : n < 8
    · skip
      obtain ⟨sh, hsh⟩ : ∃ sh, sh = x.toNat * 2 ^ (8 * n) := ⟨_, rfl⟩
      have hsh64 : sh < 18446744073709551616 := by rw [hsh]; exact byte_shl (by omega)
      have hstep := (hB.byte hx (by omega)).1 h8
      rw [← hsh] at hstep
      obtain ⟨u, hu⟩ : ∃ u, u = w0 ||| sh := ⟨_, rfl⟩
      have hu64 : u < 18446744073709551616 := by rw [hu]; exact Nat.or_lt_two_pow (n := 64) hB.1 hsh64
      rw [← hu] at hstep
      refine ck_intro rfl ?_
      refine st_intro (n := 0) (show IntKind.i64.wrap (((n : Nat) : Int).tdiv 8) = 0 from by rw [Int.tdiv_eq_ediv_of_nonneg (by omega), IntKind.wrap_i64]; omega) ?_
      refine st_intro (n := ((x.toNat : Nat) : Int)) (show IntKind.u64.wrap ((x.toNat : Nat) : Int) = _ from by rw [IntKind.wrap_u64]; omega) ?_
      refine ck_intro rfl ?_
      refine st_intro (n := ((n : Nat) : Int)) (show ((n : Nat) : Int).tmod 8 = _ from by rw [Int.tmod_eq_emod_of_nonneg (by omega)]; omega) ?_
      obtain ⟨j8, hj8⟩ : ∃ j8, j8 = 8 * n := ⟨_, rfl⟩
      refine st_intro (n := ((j8 : Nat) : Int)) (show IntKind.i64.wrap (((n : Nat) : Int) * 8) = _ from by rw [IntKind.wrap_i64]; omega) ?_
      refine ck_intro (decide_eq_true (show (0 : Int) ≤ ((j8 : Nat) : Int) by omega)) ?_
      refine st_intro (n := ((sh : Nat) : Int)) (show IntKind.u64.wrap (((x.toNat : Nat) : Int) * 2 ^ (min ((j8 : Nat) : Int).toNat IntKind.u64.bits)) = _ from by
        rw [Int.toNat_natCast, Nat.min_eq_left (show j8 ≤ IntKind.u64.bits by show _ ≤ 64; omega), ← int_pow, ← Int.natCast_mul, hj8, ← hsh, IntKind.wrap_u64]; omega) ?_
      refine st_intro (n := ((u : Nat) : Int)) (by rw [hu]; exact u64or hB.1 hsh64) ?_
      refine And.intro (fun j hj => by first | (cases hj; done) | exact LeX.append _ _ _ | exact LeX.refl _ _) ?_
      refine st_intro (n := ((n + 1 : Nat) : Int)) (nat_in (n := n + 1) (by omega)) ?_
      conv => whnf
      exact ⟨⟨(n + 1, u, w1), hnv, hstep⟩, weak_gc [0, 1] rfl ⟨rfl, rfl, rfl, rfl, rfl, rfl, rfl, rfl, rfl, trivial⟩ ⟨rfl, rfl, trivial⟩, by show hv - (n + 1) < hv - n; omega⟩
    · obtain ⟨kb, hkb⟩ : ∃ kb, n = 8 + kb := ⟨n - 8, by omega⟩
      obtain ⟨sh, hsh⟩ : ∃ sh, sh = x.toNat * 2 ^ (8 * kb) := ⟨_, rfl⟩
      have hsh64 : sh < 18446744073709551616 := by rw [hsh]; exact byte_shl (by omega)
      have hstep := (hB.byte hx (by omega)).2 kb hkb
      rw [← hsh] at hstep
      obtain ⟨u, hu⟩ : ∃ u, u = w1 ||| sh := ⟨_, rfl⟩
      have hu64 : u < 18446744073709551616 := by rw [hu]; exact Nat.or_lt_two_pow (n := 64) hB.2.1 hsh64
      rw [← hu] at hstep
      refine ck_intro rfl ?_
      refine st_intro (n := 1) (show IntKind.i64.wrap (((n : Nat) : Int).tdiv 8) = 1 from by rw [Int.tdiv_eq_ediv_of_nonneg (by omega), IntKind.wrap_i64]; omega) ?_
      refine st_intro (n := ((x.toNat : Nat) : Int)) (show IntKind.u64.wrap ((x.toNat : Nat) : Int) = _ from by rw [IntKind.wrap_u64]; omega) ?_
      refine ck_intro rfl ?_
      refine st_intro (n := ((kb : Nat) : Int)) (show ((n : Nat) : Int).tmod 8 = _ from by rw [Int.tmod_eq_emod_of_nonneg (by omega)]; omega) ?_
      obtain ⟨j8, hj8⟩ : ∃ j8, j8 = 8 * kb := ⟨_, rfl⟩
      refine st_intro (n := ((j8 : Nat) : Int)) (show IntKind.i64.wrap (((kb : Nat) : Int) * 8) = _ from by rw [IntKind.wrap_i64]; omega) ?_
      refine ck_intro (decide_eq_true (show (0 : Int) ≤ ((j8 : Nat) : Int) by omega)) ?_
      refine st_intro (n := ((sh : Nat) : Int)) (show IntKind.u64.wrap (((x.toNat : Nat) : Int) * 2 ^ (min ((j8 : Nat) : Int).toNat IntKind.u64.bits)) = _ from by
        rw [Int.toNat_natCast, Nat.min_eq_left (show j8 ≤ IntKind.u64.bits by show _ ≤ 64; omega), ← int_pow, ← Int.natCast_mul, hj8, ← hsh, IntKind.wrap_u64]; omega) ?_
      refine st_intro (n := ((u : Nat) : Int)) (by rw [hu]; exact u64or hB.2.1 hsh64) ?_
      refine And.intro (fun j hj => by first | (cases hj; done) | exact LeX.append _ _ _ | exact LeX.refl _ _) ?_
      refine st_intro (n := ((n + 1 : Nat) : Int)) (nat_in (n := n + 1) (by omega)) ?_
      conv => whnf
      exact ⟨⟨(n + 1, w0, u), hnv, hstep⟩, weak_gc [0, 1] rfl ⟨rfl, rfl, rfl, rfl, rfl, rfl, rfl, rfl, rfl, trivial⟩ ⟨rfl, rfl, trivial⟩, by show hv - (n + 1) < hv - n; omega⟩
  rintro _ _ ⟨rfl, b0, w0, w1, hB, rfl⟩
  obtain ⟨W, hWe⟩ : ∃ W, W = bytB b hv := ⟨_, rfl⟩
  rw [← hWe] at hB
  refine loop_then (fun e s' => e = .exit 2 ∧ ∃ (b0 b1 b2 b3 b4 : AV) (F : List Nat), F = root.find W ∧ s' = ⟨(49, b0) :: (48, b1) :: (47, b2) :: (46, b3) :: (45, b4) :: [(0, .t (codT d P (.iptr cs))), (4, .ptr 0 0 0 0), (5, .t (.int .i64 0)), (6, .t (.int .i64 0)), (7, .ptr 1 0 0 0), (8, .t (.int .i64 ((hv : Nat) : Int))), (11, .t (.iptr [.int .i64 (-1), .nilp, .nilp, .vecd 1 (natsT F)]))], deH w0 w1⟩) (fun HQ' HQ => ?_) ?_
  · refine loop_on (fun s : TreeD × List T => s.1.ok ∧ s.1.find W = root.find W ∧ s.1.t = .iptr s.2) (fun s => ⟨[(0, .t (codT d P (.iptr cs))), (4, .ptr 0 0 0 0), (5, .t (.int .i64 0)), (6, .t (.int .i64 0)), (7, .ptr 1 0 0 0), (8, .t (.int .i64 ((hv : Nat) : Int))), (11, .t (.iptr s.2))], deH w0 w1⟩) (fun s => s.1.high) (root, cs) ⟨hC.finds.ok, rfl, hcs⟩ ?_ (fun ⟨t, ct⟩ ⟨hok, hfind, hct⟩ => ?_)
    · exact weak_of ⟨rfl, rfl, rfl, rfl, rfl, rfl, rfl, trivial⟩ rfl
    have hok : t.ok := hok
    have hfind : t.find W = root.find W := hfind
    have hct : t.t = .iptr ct := hct
    cases t with
    | leaf F =>
      have e : ct = [.int .i64 (-1), .nilp, .nilp, .vecd 1 (natsT F)] := by injection hct with h; exact h.symm
      subst e
      exact HQ _ _ ⟨rfl, _, _, _, _, _, F, hfind, rfl⟩
    | fork p l r =>
      obtain ⟨cl, hcl'⟩ : ∃ cs, l.t = T.iptr cs := by cases l <;> exact ⟨_, rfl⟩
      obtain ⟨cr, hcr'⟩ : ∃ cs, r.t = T.iptr cs := by cases r <;> exact ⟨_, rfl⟩
      have e : ct = [.int .i64 p, .iptr cl, .iptr cr, .vecd 1 []] := by injection hct with h; rw [← h, hcl', hcr']
      subst e
      have hp : p < 120 := hok.1
      have hb2 : bit2 w0 w1 p = W p := bit2_of hB (by omega)
      refine draw_introXS (fun _ => []) ord_15_10 (by decide +kernel) ?_
      cases hWp : W p
      · skip
        have hget := get_zero hB.1 hB.2.1 (show p < 128 by omega) (by rw [hb2]; exact hWp)
        refine CallS.frzG hget rfl ⟨.refl _, .refl _, trivial⟩ ?_
        refine And.intro (fun j hj => by first | (cases hj; done) | exact LeX.append _ _ _ | exact LeX.refl _ _) ?_
        refine And.intro (fun j hj => by first | (cases hj; done) | exact LeX.append _ _ _ | exact LeX.refl _ _) ?_
        conv => whnf
        exact ⟨⟨(l, cl), hok.2.1, by rw [← hfind]; simp [TreeD.find, hWp], hcl'⟩, weak_of ⟨rfl, rfl, rfl, rfl, rfl, rfl, rfl, trivial⟩ rfl, by show (l).high < (TreeD.fork p l r).high; simp only [TreeD.high]; omega⟩
      · skip
        have hget := get_one hB.1 hB.2.1 (show p < 128 by omega) (by rw [hb2]; exact hWp)
        refine CallS.frzG hget rfl ⟨.refl _, .refl _, trivial⟩ ?_
        refine And.intro (fun j hj => by first | (cases hj; done) | exact LeX.append _ _ _ | exact LeX.refl _ _) ?_
        refine And.intro (fun j hj => by first | (cases hj; done) | exact LeX.append _ _ _ | exact LeX.refl _ _) ?_
        conv => whnf
        exact ⟨⟨(r, cr), hok.2.2, by rw [← hfind]; simp [TreeD.find, hWp], hcr'⟩, weak_of ⟨rfl, rfl, rfl, rfl, rfl, rfl, rfl, trivial⟩ rfl, by show (r).high < (TreeD.fork p l r).high; simp only [TreeD.high]; omega⟩
  rintro _ _ ⟨rfl, _, _, _, _, _, F, hF, rfl⟩
  have hFl : (natsT F).length = F.length := by unfold natsT; exact List.length_map _
  have hall : ∀ (i : Nat) f, d.forms[i]? = some f → FitsP d f b → i ∈ F := fun i f hf hfit => by
    have hG := hC.ok.forms f (List.mem_of_getElem? hf)
    obtain ⟨p, hp, _, _, hpm⟩ := hC.pat hf
    have hl := ((fitW_iff hG hhv).2 hfit).2.1
    rw [← hWe] at hl
    rw [hF]
    exact hC.finds.all W i p (List.mem_range.2 (List.getElem?_eq_some_iff.1 hf).1) hp (fits_of_lit hG hpm.pat hl)
  have hFlen : F.length ≤ 9223372036854775806 := by
    have h1 := hC.finds.short W
    rw [← hF, List.length_range] at h1
    have h2 := hC.ok.parts.fl
    omega
  refine loop_on (fun j : Nat => j ≤ F.length ∧ ∀ i ∈ F.take j, ∀ f, d.forms[i]? = some f → ¬ FitsP d f b) (fun j => ⟨[(0, .t (codT d P (.iptr cs))), (4, .ptr 0 0 0 0), (5, .t (.int .i64 0)), (6, .t (.int .i64 0)), (7, .ptr 1 0 0 0), (8, .t (.int .i64 ((hv : Nat) : Int))), (64, .t (.vecd 1 (natsT F))), (65, .t (.int .i64 (((natsT F).length : Nat) : Int))), (66, .t (.int .i64 ((j : Nat) : Int)))], deH w0 w1⟩)
    (fun j => F.length - j) 0 ⟨Nat.zero_le _, fun i h => by simp at h⟩ ?_ (fun j ⟨hj, hno⟩ => ?_)
  · exact weak_of ⟨rfl, rfl, rfl, rfl, rfl, rfl, rfl, rfl, rfl, trivial⟩ rfl
  refine br_intro (fun c => ?_) (fun c => ?_)
  rotate_left 1
  · have c : j = F.length := by have := dge c; omega
    subst c
    refine ⟨_, .inr ⟨fun i f hf hfit => ?_, rfl⟩, ⟨⟨_, _, rfl, ?_⟩, ⟨_, _, rfl, .refl _⟩, ⟨_, _, rfl, .refl _⟩, trivial⟩, rfl⟩
    · exact hno i (by rw [List.take_length]; exact hall i f hf hfit) f hf hfit
    · exact SubT.aggS ⟨.refl _, .nils 1, trivial⟩
  have c : j < F.length := by have := dlt c; omega
  obtain ⟨i, hi, him⟩ := get_some (R := F) (i := j) c
  have hil : i < d.forms.length := List.mem_range.1 (hC.finds.only W i (by rw [← hF]; exact him))
  obtain ⟨f, hf, hfm⟩ := get_some (R := d.forms) (i := i) hil
  have hG := hC.ok.forms f hfm
  obtain ⟨p, hp, _, hpsz, hpm⟩ := hC.pat hf
  have gp : (P.map PatD.t)[((i : Nat) : Int).toNat]? = some p.t := by rw [Int.toNat_natCast, List.getElem?_map, hp]; rfl
  refine opt_intro (show (natsT F)[((j : Nat) : Int).toNat]? = some (T.int .i64 ((i : Nat) : Int)) from by rw [Int.toNat_natCast]; exact natsT_get hi) ?_
  have hfr := codec_fits_runs d hd hcl hse P root hC i f hf w0 w1 W hB hv hhv15.1
  rw [hcs] at hfr
  refine CallS.frzX hfr rfl ⟨.refl _, .refl _, .refl _, .refl _, trivial⟩ ?_
  rintro _ (⟨hn, rfl⟩ | ⟨V, hy, hV, rfl⟩)
  · refine st_intro (n := ((j + 1 : Nat) : Int)) (nat_in (n := j + 1) (by omega)) ?_
    conv => whnf
    refine ⟨⟨j + 1, c, fun i' hi' f' hf' hfit => ?_⟩, weak_gc [0, 1] rfl ⟨rfl, rfl, rfl, rfl, rfl, rfl, rfl, rfl, rfl, trivial⟩ ⟨rfl, rfl, trivial⟩, by show F.length - (j + 1) < F.length - j; omega⟩
    rw [List.take_add_one, hi] at hi'
    rcases List.mem_append.1 hi' with h | h
    · exact hno i' h f' hf' hfit
    · have : i' = i := by simpa using h
      subst this
      rw [hf] at hf'; cases hf'
      have := (fitW_iff hG hhv).2 hfit
      rw [← hWe] at this
      exact hn this
  · refine draw_introXS (dS0 [3, 4, 5, 6, 7, 8, 9, 10]) ord_15_16 (by decide +kernel) ?_
    refine opt_intro gp ?_
    refine And.intro (fun j hj => by
      simp only [List.mem_cons, List.not_mem_nil, or_false] at hj
      rcases hj with rfl | rfl | rfl | rfl | rfl | rfl | rfl | rfl <;> exact LeX.set _ (List.mem_singleton.2 rfl)) ?_
    refine And.intro (fun j hj => by first | (cases hj; done) | exact LeX.append _ _ _ | exact LeX.refl _ _) ?_
    refine And.intro (fun j hj => by first | (cases hj; done) | exact LeX.append _ _ _ | exact LeX.refl _ _) ?_
    have hsz : p.sz = (formBits d f).length / 8 := by rw [hpsz, formBits_len]
    exact ⟨_, .inl ⟨i, f, V, hf, (fitW_iff hG hhv).1 (by rw [← hWe]; exact hy), by rw [← hhv, ← hWe]; exact hV, rfl⟩, ⟨⟨_, _, rfl, .refl _⟩, ⟨_, _, rfl, by rw [hsz]; exact .refl _⟩, ⟨_, _, rfl, .refl _⟩, trivial⟩, rfl⟩

end Go.Proofs.YtnjmeadmkbkikaaGreatDoor
