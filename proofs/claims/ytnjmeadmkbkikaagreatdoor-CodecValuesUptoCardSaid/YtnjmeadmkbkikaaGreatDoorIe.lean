/-
  A codec's pattern of any right form (walk).
-/
import Derived.Test.YtnjmeadmkbkikaaGreatDoorId
import Derived.Test.YtnjmeadmkbkikaaGreatDoorIc
namespace Go.Proofs.YtnjmeadmkbkikaaGreatDoor
open Go.IntWalk
set_option maxRecDepth 100000
set_option linter.unusedVariables false
set_option linter.unusedSimpArgs false
set_option maxHeartbeats 8000000

/-- How many bits an operand's class has. -/
def kbs (d : DescD) (f : FormD) (j : Nat) : Nat := match f.args[j]? with
  | some a => (match at? d.classes a.cls with | some k => k.bits.toNat | none => 0)
  | none => 0
theorem kbs_get {d : DescD} {f : FormD} (hG : GoodF d f) {j : Nat} (hj : j < f.args.length) : ∃ a k, f.args[j]? = some a ∧ at? d.classes a.cls = some k ∧ k.bits.toNat = kbs d f j ∧ 1 ≤ k.bits ∧ k.bits ≤ 64 := by
  obtain ⟨a, ha, hm⟩ := get_some (R := f.args) (i := j) hj
  obtain ⟨k, hk, hok⟩ := hG.aok a hm
  refine ⟨a, k, ha, hk, ?_, ?_⟩
  · unfold kbs; rw [ha]; simp only [hk]
  · rcases hok with h | h | h <;> omega
/-- The outer row while the rows are made. -/
def rowsV (kb : Nat → Nat) (N i : Nat) : List AV := (List.range N).map fun j => if j < i then .sl (5 + j) 0 0 (kb j) else .t .nils
def vsF (kb : Nat → Nat) (N : Nat) : List AV := (List.range N).map fun j => .sl (6 + j) 0 0 (kb j)
theorem rowsV_get {kb : Nat → Nat} {N i j : Nat} : (rowsV kb N i)[j]? = if j < N then some (if j < i then .sl (5 + j) 0 0 (kb j) else .t .nils) else none := by
  unfold rowsV
  rw [List.getElem?_map]
  by_cases h : j < N
  · rw [List.getElem?_range h, if_pos h]; rfl
  · rw [List.getElem?_eq_none (by simp; omega), if_neg h]; rfl
theorem rowsV_zero {kb : Nat → Nat} {N : Nat} : (List.replicate N T.nils).map AV.t = rowsV kb N 0 := by
  apply List.ext_getElem?
  intro j
  rw [rowsV_get, List.getElem?_map, List.getElem?_replicate]
  by_cases h : j < N <;> simp [h]
theorem renL_pt {k0 : Nat} {keep : List Nat} {H : AH} : ∀ (n : Nat) (l l' : List AV), l.length < n → l'.length = l.length → (∀ (j : Nat) (x : AV), l[j]? = some x → ∃ x' : AV, l'[j]? = some x' ∧ ∀ m, renF k0 (m + 1) keep H x = some x') → renL k0 n keep H l = some l'
  | 0, _, _, h, _, _ => by omega
  | k + 1, [], l', _, hl, _ => by cases l' with | nil => simp only [renL] | cons => simp at hl
  | k + 1, v :: r, [], _, hl, _ => by simp at hl
  | k + 1, v :: r, v' :: r', h, hl, hx => by
    have hl1 : r.length < k := by simp at h; omega
    obtain ⟨m, rfl⟩ : ∃ m, k = m + 1 := ⟨k - 1, by omega⟩
    obtain ⟨x', h1, h2⟩ := hx 0 v rfl
    cases h1
    have h3 := renL_pt (m + 1) r r' hl1 (by simpa using hl) fun j x h => hx (j + 1) x h
    simp only [renL, h2 m, h3]
def rowAt (H : AH) (b : Nat) : Bool := match H[b]? with | some (.arr e 1 false 0 _) => Nat.beq e tI | _ => false
theorem rowAt_spec {H : AH} {b : Nat} (h : rowAt H b = true) : ∃ e l, H[b]? = some (.arr e 1 false 0 l) := by
  unfold rowAt at h
  split at h
  · exact ⟨_, _, by assumption⟩
  · cases h
theorem renF_row {k0 m : Nat} {keep : List Nat} {H : AH} {b b' n : Nat} (h0 : k0 = 0) (hH : rowAt H b = true) (hk : findI keep b 0 = some b') : renF k0 (m + 1) keep H (.sl b 0 0 n) = some (.sl b' 0 0 n) := by
  obtain ⟨e, l, h⟩ := rowAt_spec hH
  subst h0
  have hz : Nat.blt b' 0 = false := rfl
  simp only [renF, hk, h, newG, hz]
  try rfl
/-- One row more. -/
theorem rows_ren {kb : Nat → Nat} {N i n : Nat} (hi : i < N) (hN : N ≤ 6) (hn : n = kb i) {keep : List Nat} {H : AH} (hH : (∀ j, j < i → rowAt H (5 + j) = true ∧ findI keep (5 + j) 0 = some (5 + j)) ∧ rowAt H (6 + i) = true ∧ findI keep (6 + i) 0 = some (5 + i)) :
    (renL 0 64 keep H ((rowsV kb N i).set i (.sl (6 + i) 0 0 n))).map (fun l => Blk.arr tIs 1 false 0 (.vs l)) = some (.arr tIs 1 false 0 (.vs (rowsV kb N (i + 1)))) := by
  subst hn
  have hl : ∀ q, (rowsV kb N q).length = N := fun q => by unfold rowsV; simp
  suffices e : renL 0 64 keep H ((rowsV kb N i).set i (.sl (6 + i) 0 0 (kb i))) = some (rowsV kb N (i + 1)) by rw [e]; rfl
  refine renL_pt 64 _ (rowsV kb N (i + 1)) (by rw [List.length_set, hl]; omega) (by rw [List.length_set, hl, hl]) fun j x hx => ?_
  rw [List.getElem?_set, rowsV_get, hl] at hx
  rw [rowsV_get]
  by_cases hj : i = j
  · subst hj
    rw [if_pos rfl, if_pos hi] at hx
    cases hx
    exact ⟨_, by rw [if_pos hi, if_pos (Nat.lt_succ_self i)], fun m => renF_row rfl hH.2.1 hH.2.2⟩
  · rw [if_neg hj] at hx
    by_cases hjN : j < N
    · rw [if_pos hjN] at hx
      by_cases hji : j < i
      · rw [if_pos hji] at hx; cases hx
        exact ⟨_, by rw [if_pos hjN, if_pos (by omega)], fun m => renF_row rfl (hH.1 j hji).1 (hH.1 j hji).2⟩
      · rw [if_neg hji] at hx; cases hx
        exact ⟨_, by rw [if_pos hjN, if_neg (by omega)], fun m => by simp only [renF]⟩
    · rw [if_neg hjN] at hx; cases hx
theorem rows_ren0 {kb : Nat → Nat} {N n : Nat} (hi : 0 < N) (hN : N ≤ 6) (hn : n = kb 0) {keep : List Nat} {H : AH} (hH : rowAt H 6 = true ∧ findI keep 6 0 = some 5) :
    (renL 0 64 keep H (((List.replicate N T.nils).map AV.t).set 0 (.sl 6 0 0 n))).map (fun l => Blk.arr tIs 1 false 0 (.vs l)) = some (.arr tIs 1 false 0 (.vs (rowsV kb N 1))) := by
  rw [rowsV_zero (kb := kb)]
  exact rows_ren hi hN hn ⟨fun j hj => absurd hj (Nat.not_lt_zero _), hH⟩
def rowsF (kb : Nat → Nat) : Nat → List (List Int) → List T
  | _, [] => []
  | o, c :: r => T.vec 1 (((c.map (T.int .i64)).drop 0).take (kb o)) :: rowsF kb (o + 1) r
theorem rowsF_eq {kb : Nat → Nat} : ∀ (o : Nat) (C : List (List Int)), (∀ j c, C[j]? = some c → c.length = kb (o + j)) → rowsF kb o C = C.map fun c => T.vec 1 (c.map (T.int .i64))
  | _, [], _ => rfl
  | o, c :: r, h => by
    simp only [rowsF, List.map_cons]
    rw [rowsF_eq (o + 1) r fun j c hj => by have := h (j + 1) c hj; rw [this]; congr 1; omega, List.drop_zero, List.take_of_length_le (by have := h 0 c rfl; rw [Nat.add_zero] at this; simp; omega)]
theorem rows_sub {kb : Nat → Nat} {C : List (List Int)} (h : ∀ j c, C[j]? = some c → c.length = kb j) : SubT (.vec 1 (rowsF kb 0 C)) (.vecd 1 (C.map fun c => T.vecd 1 (c.map (T.int .i64)))) := by
  rw [rowsF_eq 0 C fun j c hj => by rw [Nat.zero_add]; exact h j c hj]
  exact (SubC.map (fun c => SubT.vec 1 (c.map (T.int .i64))) C).toVecD 1

abbrev mH0 (d : DescD) (f : FormD) (sz N : Nat) (kb : Nat → Nat) (i : Nat) : AH := match i with
  | 0 => [.box (descC d), .box [.t (.int .i64 0), .t (.int .u64 0), .t (.int .u64 0), .t (.int .u64 0), .t (.int .u64 0), .t .nils, .t (.bool false)], .arr tIs 1 false 0 (.ts (List.replicate N T.nils)), .box [.t (.int .i64 (sz : Int)), .t (.int .u64 0), .t (.int .u64 0), .t (.int .u64 0), .t (.int .u64 0), .sl 2 0 0 N, .t (.bool false)], .box (formC f)]
  | 1 => [.box (descC d), .box [.t (.int .i64 0), .t (.int .u64 0), .t (.int .u64 0), .t (.int .u64 0), .t (.int .u64 0), .t .nils, .t (.bool false)], .arr tIs 1 false 0 (.vs (rowsV kb N 1)), .box [.t (.int .i64 (sz : Int)), .t (.int .u64 0), .t (.int .u64 0), .t (.int .u64 0), .t (.int .u64 0), .sl 2 0 0 N, .t (.bool false)], .box (formC f), .arr tI 1 false 0 (.ts ((List.replicate (kb 0) (0 : Int)).map (T.int .i64)))]
  | 2 => [.box (descC d), .box [.t (.int .i64 0), .t (.int .u64 0), .t (.int .u64 0), .t (.int .u64 0), .t (.int .u64 0), .t .nils, .t (.bool false)], .arr tIs 1 false 0 (.vs (rowsV kb N 2)), .box [.t (.int .i64 (sz : Int)), .t (.int .u64 0), .t (.int .u64 0), .t (.int .u64 0), .t (.int .u64 0), .sl 2 0 0 N, .t (.bool false)], .box (formC f), .arr tI 1 false 0 (.ts ((List.replicate (kb 0) (0 : Int)).map (T.int .i64))), .arr tI 1 false 0 (.ts ((List.replicate (kb 1) (0 : Int)).map (T.int .i64)))]
  | 3 => [.box (descC d), .box [.t (.int .i64 0), .t (.int .u64 0), .t (.int .u64 0), .t (.int .u64 0), .t (.int .u64 0), .t .nils, .t (.bool false)], .arr tIs 1 false 0 (.vs (rowsV kb N 3)), .box [.t (.int .i64 (sz : Int)), .t (.int .u64 0), .t (.int .u64 0), .t (.int .u64 0), .t (.int .u64 0), .sl 2 0 0 N, .t (.bool false)], .box (formC f), .arr tI 1 false 0 (.ts ((List.replicate (kb 0) (0 : Int)).map (T.int .i64))), .arr tI 1 false 0 (.ts ((List.replicate (kb 1) (0 : Int)).map (T.int .i64))), .arr tI 1 false 0 (.ts ((List.replicate (kb 2) (0 : Int)).map (T.int .i64)))]
  | 4 => [.box (descC d), .box [.t (.int .i64 0), .t (.int .u64 0), .t (.int .u64 0), .t (.int .u64 0), .t (.int .u64 0), .t .nils, .t (.bool false)], .arr tIs 1 false 0 (.vs (rowsV kb N 4)), .box [.t (.int .i64 (sz : Int)), .t (.int .u64 0), .t (.int .u64 0), .t (.int .u64 0), .t (.int .u64 0), .sl 2 0 0 N, .t (.bool false)], .box (formC f), .arr tI 1 false 0 (.ts ((List.replicate (kb 0) (0 : Int)).map (T.int .i64))), .arr tI 1 false 0 (.ts ((List.replicate (kb 1) (0 : Int)).map (T.int .i64))), .arr tI 1 false 0 (.ts ((List.replicate (kb 2) (0 : Int)).map (T.int .i64))), .arr tI 1 false 0 (.ts ((List.replicate (kb 3) (0 : Int)).map (T.int .i64)))]
  | 5 => [.box (descC d), .box [.t (.int .i64 0), .t (.int .u64 0), .t (.int .u64 0), .t (.int .u64 0), .t (.int .u64 0), .t .nils, .t (.bool false)], .arr tIs 1 false 0 (.vs (rowsV kb N 5)), .box [.t (.int .i64 (sz : Int)), .t (.int .u64 0), .t (.int .u64 0), .t (.int .u64 0), .t (.int .u64 0), .sl 2 0 0 N, .t (.bool false)], .box (formC f), .arr tI 1 false 0 (.ts ((List.replicate (kb 0) (0 : Int)).map (T.int .i64))), .arr tI 1 false 0 (.ts ((List.replicate (kb 1) (0 : Int)).map (T.int .i64))), .arr tI 1 false 0 (.ts ((List.replicate (kb 2) (0 : Int)).map (T.int .i64))), .arr tI 1 false 0 (.ts ((List.replicate (kb 3) (0 : Int)).map (T.int .i64))), .arr tI 1 false 0 (.ts ((List.replicate (kb 4) (0 : Int)).map (T.int .i64)))]
  | _ => [.box (descC d), .box [.t (.int .i64 0), .t (.int .u64 0), .t (.int .u64 0), .t (.int .u64 0), .t (.int .u64 0), .t .nils, .t (.bool false)], .arr tIs 1 false 0 (.vs (rowsV kb N 6)), .box [.t (.int .i64 (sz : Int)), .t (.int .u64 0), .t (.int .u64 0), .t (.int .u64 0), .t (.int .u64 0), .sl 2 0 0 N, .t (.bool false)], .box (formC f), .arr tI 1 false 0 (.ts ((List.replicate (kb 0) (0 : Int)).map (T.int .i64))), .arr tI 1 false 0 (.ts ((List.replicate (kb 1) (0 : Int)).map (T.int .i64))), .arr tI 1 false 0 (.ts ((List.replicate (kb 2) (0 : Int)).map (T.int .i64))), .arr tI 1 false 0 (.ts ((List.replicate (kb 3) (0 : Int)).map (T.int .i64))), .arr tI 1 false 0 (.ts ((List.replicate (kb 4) (0 : Int)).map (T.int .i64))), .arr tI 1 false 0 (.ts ((List.replicate (kb 5) (0 : Int)).map (T.int .i64)))]
abbrev mE0 (f : FormD) (i : Nat) : List (Nat × AV) := [(4, .ptr 1 0 0 0), (6, .ptr 3 0 0 0), (2, .ptr 0 0 0 0), (5, .ptr 4 0 0 0), (31, .t (.vecd 2 (f.args.map argT))), (32, .t (.int .i64 ((f.args.map argT).length : Int))), (33, .t (.int .i64 (i : Int)))]

theorem made_runs (d : DescD) (hd : d.ok) (i : Nat) (f : FormD) (hi : d.forms[i]? = some f) (hs : sumL f.pieces ≤ 2000000000000) (hG : GoodF d f) : RunsX Tryz.prog 36 [descT d, .int .i64 i] (MadeS d f) := by
  have hfok : f.ok := hd.2.2.2.2.2.2.2.2.2.2.2.1 f (List.mem_of_getElem? hi)
  have hSz := size_runs d hd i f hi hs hG
  obtain ⟨L, hL⟩ : ∃ L, L = rawB f.pieces := ⟨_, rfl⟩
  have hLl : L.length ≤ 120 := by rw [hL]; exact hG.le
  have h8 : L.length % 8 = 0 := by rw [hL]; exact hG.m8
  obtain ⟨sz, hsz⟩ : ∃ sz, sz = L.length / 8 := ⟨_, rfl⟩
  obtain ⟨n, hn⟩ : ∃ n, n = L.length := ⟨_, rfl⟩
  rw [← hL, ← hsz] at hSz
  have hpl : f.pieces.length ≤ 9223372036854775807 := maxLen_le hfok.2.2.2.2.1
  obtain ⟨N, hlen⟩ : ∃ N, f.args.length = N := ⟨_, rfl⟩
  have hN : N ≤ 6 := by have := hG.args; omega
  have hmap : (f.args.map argT).length = N := by rw [List.length_map, hlen]
  have hnt : (((f.args.map argT).length : Nat) : Int).toNat = N := by rw [Int.toNat_natCast, hmap]
  obtain ⟨kb, hkbe⟩ : ∃ kb, kb = kbs d f := ⟨_, rfl⟩
  have hkb : ∀ j, j < N → ∃ a k, f.args[j]? = some a ∧ at? d.classes a.cls = some k ∧ k.bits.toNat = kb j ∧ 1 ≤ k.bits ∧ k.bits ≤ 64 := fun j hj => by rw [hkbe]; exact kbs_get hG (by omega)
  have hz : List.replicate (((f.args.map argT).length : Nat) : Int).toNat T.nils = List.replicate N T.nils := by rw [hnt]
  have hMz : MInv d f L 0 0 0 0 0 false ((List.range N).map fun j => List.replicate (kb j) (0 : Int)) := by
    refine MInv.start (by simp [hlen]) fun j a k c h1 h2 h3 => ?_
    have hj := (List.getElem?_eq_some_iff.1 h1).1
    obtain ⟨a', k', g1, g2, g3, _⟩ := hkb j (by omega)
    rw [g1] at h1; cases h1
    rw [g2] at h2; cases h2
    rw [List.getElem?_map, List.getElem?_range (by omega)] at h3
    cases h3
    rw [List.length_replicate, g3]
  have hvs : ∀ j, j < N → (vsF kb N)[j]? = some (.sl (6 + j) 0 0 (kb j)) := fun j hj => by unfold vsF; rw [List.getElem?_map, List.getElem?_range hj]; rfl
  have hvl : (vsF kb N).length = N := by unfold vsF; simp
  have hend : ∀ (w m0 m1 w0 w1 : Nat) (lz : Bool) (C : List (List Int)), w = L.length → MInv d f L w m0 m1 w0 w1 lz C → MadeOK d f m0 m1 w0 w1 lz C ∧ ∀ j c, C[j]? = some c → c.length = kb j := fun w m0 m1 w0 w1 lz C hw hM =>
    ⟨MInv.all hG (w := w) (by rw [← hL]; exact hM) (by rw [← hL]; exact hw), fun j c hc => by
      have hj := (List.getElem?_eq_some_iff.1 hc).1
      rw [hM.len, hlen] at hj
      obtain ⟨a', k', g1, g2, g3, _⟩ := hkb j hj
      rw [(hM.rows j a' k' c g1 g2 hc).1, g3]⟩
  refine RunsX.of_call ?_ MadeS.noRef
  refine CallS.of_fn tabS_ok regS_ok Tryz.func36 rfl rfl ?_
  refine opt_intro (show (d.forms.map formT)[((i : Nat) : Int).toNat]? = some (formT f) from by rw [Int.toNat_natCast, List.getElem?_map, hi]; rfl) ?_
  refine draw_introS ord_36_2 (by decide +kernel) ?_
  refine ck_intro (mkOK6 (n := (f.args.map argT).length) (z := 24) (by omega) (by omega)) ?_
  refine br_intro (fun c => absurd (of_decide_eq_true c) (by omega)) (fun _ => ?_)
  refine CallS.frzG hSz rfl ⟨.refl _, .refl _, trivial⟩ ?_
  refine And.intro (fun j hj => by first | (cases hj; done) | exact LeX.append _ _ _ | exact LeX.refl _ _) ?_
  refine And.intro (fun j hj => by first | (cases hj; done) | exact LeX.append _ _ _ | exact LeX.refl _ _) ?_
  refine loop_then (fun e s' => e = .exit 0 ∧ ∃ (b0 : AV) (i : Nat), i = N ∧ s' = ⟨(34, b0) :: mE0 f i, mH0 d f sz N kb i⟩) (fun HQ' HQ => ?_) ?_
  · refine loop_on (fun i : Nat => i ≤ N) (fun i => ⟨mE0 f i, mH0 d f sz N kb i⟩) (fun i => N - i) 0 (Nat.zero_le _) ?_ (fun i hi => ?_)
    · exact weak_gc [0, 1, 3, 4, 2] rfl ⟨rfl, rfl, rfl, rfl, rfl, rfl, rfl, trivial⟩ ⟨rfl, rfl, congrArg (fun l => some (Blk.arr tIs 1 false 0 (.ts l))) hz, congrArg (fun k : Nat => some (Blk.box [.t (.int .i64 (sz : Int)), .t (.int .u64 0), .t (.int .u64 0), .t (.int .u64 0), .t (.int .u64 0), .sl 2 0 0 k, .t (.bool false)])) hnt, rfl, trivial⟩
    have hi : i ≤ N := hi
    rcases (show i = 0 ∨ i = 1 ∨ i = 2 ∨ i = 3 ∨ i = 4 ∨ i = 5 ∨ i = 6 by omega) with rfl | rfl | rfl | rfl | rfl | rfl | rfl
    · refine br_intro (fun c => ?_) (fun c => ?_)
      · have c : 0 < N := by have := dlt (a := 0) c; omega
        obtain ⟨a, k, ha, hk, hkb', hb⟩ := hkb 0 c
        have hcl := at_lt hk
        obtain ⟨x, hx, _, hkg⟩ := at_some hcl
        obtain rfl : k = x := by rw [hk] at hx; exact Option.some.inj hx
        refine opt_intro (show (f.args.map argT)[((0 : Nat) : Int).toNat]? = some (argT a) from by rw [Int.toNat_natCast, List.getElem?_map, ha]; rfl) ?_
        refine draw_introS ord_36_6 (by decide +kernel) ?_
        refine ck_intro (ix0 rfl hcl.1) ?_
        refine opt_intro (row_get hkg) ?_
        refine ck_intro (mkB8 (b := k.bits) (by omega) (by omega)) ?_
        refine br_intro (fun c => absurd (of_decide_eq_true c) (by omega)) (fun _ => ?_)
        refine ck_intro (inB1 rfl (by omega) (by omega)) ?_
        refine opt_intro (a := T.nils) (by show (List.replicate N T.nils)[0]? = _; rw [List.getElem?_replicate, if_pos c]) ?_
        conv => whnf
        refine And.intro (fun j hj => by first | (cases hj; done) | exact LeX.append _ _ _ | exact LeX.refl _ _) ?_
        have hzr : List.replicate k.bits.toNat (T.int .i64 0) = (List.replicate (kb 0) (0 : Int)).map (T.int .i64) := by rw [List.map_replicate, hkb']
        conv => whnf
        refine ⟨⟨1, by omega⟩, ?_, by show N - 1 < N - 0; omega⟩
        show Weak _ _ ⟨mE0 f 1, [.box (descC d), .box [.t (.int .i64 0), .t (.int .u64 0), .t (.int .u64 0), .t (.int .u64 0), .t (.int .u64 0), .t .nils, .t (.bool false)], .arr tIs 1 false 0 (.vs (rowsV kb N 1)), .box [.t (.int .i64 (sz : Int)), .t (.int .u64 0), .t (.int .u64 0), .t (.int .u64 0), .t (.int .u64 0), .sl 2 0 0 N, .t (.bool false)], .box (formC f), .arr tI 1 false 0 (.ts ((List.replicate (kb 0) (0 : Int)).map (T.int .i64)))]⟩
        exact weak_gc [0, 1, 2, 3, 4, 6] rfl ⟨rfl, rfl, rfl, rfl, rfl, rfl, rfl, trivial⟩ ⟨rfl, rfl, (by refine rows_ren0 (kb := kb) c hN hkb' ?_; exact ⟨rfl, rfl⟩), rfl, rfl, congrArg (fun l => some (Blk.arr tI 1 false 0 (.ts l))) hzr, trivial⟩
      · have c : 0 = N := by have := dge (a := 0) c; omega
        exact HQ _ _ ⟨rfl, _, 0, c, rfl⟩
    · refine br_intro (fun c => ?_) (fun c => ?_)
      · have c : 1 < N := by have := dlt (a := 1) c; omega
        obtain ⟨a, k, ha, hk, hkb', hb⟩ := hkb 1 c
        have hcl := at_lt hk
        obtain ⟨x, hx, _, hkg⟩ := at_some hcl
        obtain rfl : k = x := by rw [hk] at hx; exact Option.some.inj hx
        refine opt_intro (show (f.args.map argT)[((1 : Nat) : Int).toNat]? = some (argT a) from by rw [Int.toNat_natCast, List.getElem?_map, ha]; rfl) ?_
        refine draw_introS ord_36_6 (by decide +kernel) ?_
        refine ck_intro (ix0 rfl hcl.1) ?_
        refine opt_intro (row_get hkg) ?_
        refine ck_intro (mkB8 (b := k.bits) (by omega) (by omega)) ?_
        refine br_intro (fun c => absurd (of_decide_eq_true c) (by omega)) (fun _ => ?_)
        refine ck_intro (inB1 rfl (by omega) (by omega)) ?_
        refine opt_intro (a := AV.t T.nils) (by show (rowsV kb N 1)[1]? = _; rw [rowsV_get, if_pos c, if_neg (Nat.lt_irrefl 1)]) ?_
        conv => whnf
        refine And.intro (fun j hj => by first | (cases hj; done) | exact LeX.append _ _ _ | exact LeX.refl _ _) ?_
        have hzr : List.replicate k.bits.toNat (T.int .i64 0) = (List.replicate (kb 1) (0 : Int)).map (T.int .i64) := by rw [List.map_replicate, hkb']
        conv => whnf
        refine ⟨⟨2, by omega⟩, ?_, by show N - 2 < N - 1; omega⟩
        show Weak _ _ ⟨mE0 f 2, [.box (descC d), .box [.t (.int .i64 0), .t (.int .u64 0), .t (.int .u64 0), .t (.int .u64 0), .t (.int .u64 0), .t .nils, .t (.bool false)], .arr tIs 1 false 0 (.vs (rowsV kb N 2)), .box [.t (.int .i64 (sz : Int)), .t (.int .u64 0), .t (.int .u64 0), .t (.int .u64 0), .t (.int .u64 0), .sl 2 0 0 N, .t (.bool false)], .box (formC f), .arr tI 1 false 0 (.ts ((List.replicate (kb 0) (0 : Int)).map (T.int .i64))), .arr tI 1 false 0 (.ts ((List.replicate (kb 1) (0 : Int)).map (T.int .i64)))]⟩
        exact weak_gc [0, 1, 2, 3, 4, 5, 7] rfl ⟨rfl, rfl, rfl, rfl, rfl, rfl, rfl, trivial⟩ ⟨rfl, rfl, (by refine rows_ren (kb := kb) c hN hkb' ?_; exact ⟨fun j hj => by rcases (show j = 0 by omega) with rfl <;> exact ⟨rfl, rfl⟩, rfl, rfl⟩), rfl, rfl, rfl, congrArg (fun l => some (Blk.arr tI 1 false 0 (.ts l))) hzr, trivial⟩
      · have c : 1 = N := by have := dge (a := 1) c; omega
        exact HQ _ _ ⟨rfl, _, 1, c, rfl⟩
    · refine br_intro (fun c => ?_) (fun c => ?_)
      · have c : 2 < N := by have := dlt (a := 2) c; omega
        obtain ⟨a, k, ha, hk, hkb', hb⟩ := hkb 2 c
        have hcl := at_lt hk
        obtain ⟨x, hx, _, hkg⟩ := at_some hcl
        obtain rfl : k = x := by rw [hk] at hx; exact Option.some.inj hx
        refine opt_intro (show (f.args.map argT)[((2 : Nat) : Int).toNat]? = some (argT a) from by rw [Int.toNat_natCast, List.getElem?_map, ha]; rfl) ?_
        refine draw_introS ord_36_6 (by decide +kernel) ?_
        refine ck_intro (ix0 rfl hcl.1) ?_
        refine opt_intro (row_get hkg) ?_
        refine ck_intro (mkB8 (b := k.bits) (by omega) (by omega)) ?_
        refine br_intro (fun c => absurd (of_decide_eq_true c) (by omega)) (fun _ => ?_)
        refine ck_intro (inB1 rfl (by omega) (by omega)) ?_
        refine opt_intro (a := AV.t T.nils) (by show (rowsV kb N 2)[2]? = _; rw [rowsV_get, if_pos c, if_neg (Nat.lt_irrefl 2)]) ?_
        conv => whnf
        refine And.intro (fun j hj => by first | (cases hj; done) | exact LeX.append _ _ _ | exact LeX.refl _ _) ?_
        have hzr : List.replicate k.bits.toNat (T.int .i64 0) = (List.replicate (kb 2) (0 : Int)).map (T.int .i64) := by rw [List.map_replicate, hkb']
        conv => whnf
        refine ⟨⟨3, by omega⟩, ?_, by show N - 3 < N - 2; omega⟩
        show Weak _ _ ⟨mE0 f 3, [.box (descC d), .box [.t (.int .i64 0), .t (.int .u64 0), .t (.int .u64 0), .t (.int .u64 0), .t (.int .u64 0), .t .nils, .t (.bool false)], .arr tIs 1 false 0 (.vs (rowsV kb N 3)), .box [.t (.int .i64 (sz : Int)), .t (.int .u64 0), .t (.int .u64 0), .t (.int .u64 0), .t (.int .u64 0), .sl 2 0 0 N, .t (.bool false)], .box (formC f), .arr tI 1 false 0 (.ts ((List.replicate (kb 0) (0 : Int)).map (T.int .i64))), .arr tI 1 false 0 (.ts ((List.replicate (kb 1) (0 : Int)).map (T.int .i64))), .arr tI 1 false 0 (.ts ((List.replicate (kb 2) (0 : Int)).map (T.int .i64)))]⟩
        exact weak_gc [0, 1, 2, 3, 4, 5, 6, 8] rfl ⟨rfl, rfl, rfl, rfl, rfl, rfl, rfl, trivial⟩ ⟨rfl, rfl, (by refine rows_ren (kb := kb) c hN hkb' ?_; exact ⟨fun j hj => by rcases (show j = 0 ∨ j = 1 by omega) with rfl | rfl <;> exact ⟨rfl, rfl⟩, rfl, rfl⟩), rfl, rfl, rfl, rfl, congrArg (fun l => some (Blk.arr tI 1 false 0 (.ts l))) hzr, trivial⟩
      · have c : 2 = N := by have := dge (a := 2) c; omega
        exact HQ _ _ ⟨rfl, _, 2, c, rfl⟩
    · refine br_intro (fun c => ?_) (fun c => ?_)
      · have c : 3 < N := by have := dlt (a := 3) c; omega
        obtain ⟨a, k, ha, hk, hkb', hb⟩ := hkb 3 c
        have hcl := at_lt hk
        obtain ⟨x, hx, _, hkg⟩ := at_some hcl
        obtain rfl : k = x := by rw [hk] at hx; exact Option.some.inj hx
        refine opt_intro (show (f.args.map argT)[((3 : Nat) : Int).toNat]? = some (argT a) from by rw [Int.toNat_natCast, List.getElem?_map, ha]; rfl) ?_
        refine draw_introS ord_36_6 (by decide +kernel) ?_
        refine ck_intro (ix0 rfl hcl.1) ?_
        refine opt_intro (row_get hkg) ?_
        refine ck_intro (mkB8 (b := k.bits) (by omega) (by omega)) ?_
        refine br_intro (fun c => absurd (of_decide_eq_true c) (by omega)) (fun _ => ?_)
        refine ck_intro (inB1 rfl (by omega) (by omega)) ?_
        refine opt_intro (a := AV.t T.nils) (by show (rowsV kb N 3)[3]? = _; rw [rowsV_get, if_pos c, if_neg (Nat.lt_irrefl 3)]) ?_
        conv => whnf
        refine And.intro (fun j hj => by first | (cases hj; done) | exact LeX.append _ _ _ | exact LeX.refl _ _) ?_
        have hzr : List.replicate k.bits.toNat (T.int .i64 0) = (List.replicate (kb 3) (0 : Int)).map (T.int .i64) := by rw [List.map_replicate, hkb']
        conv => whnf
        refine ⟨⟨4, by omega⟩, ?_, by show N - 4 < N - 3; omega⟩
        show Weak _ _ ⟨mE0 f 4, [.box (descC d), .box [.t (.int .i64 0), .t (.int .u64 0), .t (.int .u64 0), .t (.int .u64 0), .t (.int .u64 0), .t .nils, .t (.bool false)], .arr tIs 1 false 0 (.vs (rowsV kb N 4)), .box [.t (.int .i64 (sz : Int)), .t (.int .u64 0), .t (.int .u64 0), .t (.int .u64 0), .t (.int .u64 0), .sl 2 0 0 N, .t (.bool false)], .box (formC f), .arr tI 1 false 0 (.ts ((List.replicate (kb 0) (0 : Int)).map (T.int .i64))), .arr tI 1 false 0 (.ts ((List.replicate (kb 1) (0 : Int)).map (T.int .i64))), .arr tI 1 false 0 (.ts ((List.replicate (kb 2) (0 : Int)).map (T.int .i64))), .arr tI 1 false 0 (.ts ((List.replicate (kb 3) (0 : Int)).map (T.int .i64)))]⟩
        exact weak_gc [0, 1, 2, 3, 4, 5, 6, 7, 9] rfl ⟨rfl, rfl, rfl, rfl, rfl, rfl, rfl, trivial⟩ ⟨rfl, rfl, (by refine rows_ren (kb := kb) c hN hkb' ?_; exact ⟨fun j hj => by rcases (show j = 0 ∨ j = 1 ∨ j = 2 by omega) with rfl | rfl | rfl <;> exact ⟨rfl, rfl⟩, rfl, rfl⟩), rfl, rfl, rfl, rfl, rfl, congrArg (fun l => some (Blk.arr tI 1 false 0 (.ts l))) hzr, trivial⟩
      · have c : 3 = N := by have := dge (a := 3) c; omega
        exact HQ _ _ ⟨rfl, _, 3, c, rfl⟩
    · refine br_intro (fun c => ?_) (fun c => ?_)
      · have c : 4 < N := by have := dlt (a := 4) c; omega
        obtain ⟨a, k, ha, hk, hkb', hb⟩ := hkb 4 c
        have hcl := at_lt hk
        obtain ⟨x, hx, _, hkg⟩ := at_some hcl
        obtain rfl : k = x := by rw [hk] at hx; exact Option.some.inj hx
        refine opt_intro (show (f.args.map argT)[((4 : Nat) : Int).toNat]? = some (argT a) from by rw [Int.toNat_natCast, List.getElem?_map, ha]; rfl) ?_
        refine draw_introS ord_36_6 (by decide +kernel) ?_
        refine ck_intro (ix0 rfl hcl.1) ?_
        refine opt_intro (row_get hkg) ?_
        refine ck_intro (mkB8 (b := k.bits) (by omega) (by omega)) ?_
        refine br_intro (fun c => absurd (of_decide_eq_true c) (by omega)) (fun _ => ?_)
        refine ck_intro (inB1 rfl (by omega) (by omega)) ?_
        refine opt_intro (a := AV.t T.nils) (by show (rowsV kb N 4)[4]? = _; rw [rowsV_get, if_pos c, if_neg (Nat.lt_irrefl 4)]) ?_
        conv => whnf
        refine And.intro (fun j hj => by first | (cases hj; done) | exact LeX.append _ _ _ | exact LeX.refl _ _) ?_
        have hzr : List.replicate k.bits.toNat (T.int .i64 0) = (List.replicate (kb 4) (0 : Int)).map (T.int .i64) := by rw [List.map_replicate, hkb']
        conv => whnf
        refine ⟨⟨5, by omega⟩, ?_, by show N - 5 < N - 4; omega⟩
        show Weak _ _ ⟨mE0 f 5, [.box (descC d), .box [.t (.int .i64 0), .t (.int .u64 0), .t (.int .u64 0), .t (.int .u64 0), .t (.int .u64 0), .t .nils, .t (.bool false)], .arr tIs 1 false 0 (.vs (rowsV kb N 5)), .box [.t (.int .i64 (sz : Int)), .t (.int .u64 0), .t (.int .u64 0), .t (.int .u64 0), .t (.int .u64 0), .sl 2 0 0 N, .t (.bool false)], .box (formC f), .arr tI 1 false 0 (.ts ((List.replicate (kb 0) (0 : Int)).map (T.int .i64))), .arr tI 1 false 0 (.ts ((List.replicate (kb 1) (0 : Int)).map (T.int .i64))), .arr tI 1 false 0 (.ts ((List.replicate (kb 2) (0 : Int)).map (T.int .i64))), .arr tI 1 false 0 (.ts ((List.replicate (kb 3) (0 : Int)).map (T.int .i64))), .arr tI 1 false 0 (.ts ((List.replicate (kb 4) (0 : Int)).map (T.int .i64)))]⟩
        exact weak_gc [0, 1, 2, 3, 4, 5, 6, 7, 8, 10] rfl ⟨rfl, rfl, rfl, rfl, rfl, rfl, rfl, trivial⟩ ⟨rfl, rfl, (by refine rows_ren (kb := kb) c hN hkb' ?_; exact ⟨fun j hj => by rcases (show j = 0 ∨ j = 1 ∨ j = 2 ∨ j = 3 by omega) with rfl | rfl | rfl | rfl <;> exact ⟨rfl, rfl⟩, rfl, rfl⟩), rfl, rfl, rfl, rfl, rfl, rfl, congrArg (fun l => some (Blk.arr tI 1 false 0 (.ts l))) hzr, trivial⟩
      · have c : 4 = N := by have := dge (a := 4) c; omega
        exact HQ _ _ ⟨rfl, _, 4, c, rfl⟩
    · refine br_intro (fun c => ?_) (fun c => ?_)
      · have c : 5 < N := by have := dlt (a := 5) c; omega
        obtain ⟨a, k, ha, hk, hkb', hb⟩ := hkb 5 c
        have hcl := at_lt hk
        obtain ⟨x, hx, _, hkg⟩ := at_some hcl
        obtain rfl : k = x := by rw [hk] at hx; exact Option.some.inj hx
        refine opt_intro (show (f.args.map argT)[((5 : Nat) : Int).toNat]? = some (argT a) from by rw [Int.toNat_natCast, List.getElem?_map, ha]; rfl) ?_
        refine draw_introS ord_36_6 (by decide +kernel) ?_
        refine ck_intro (ix0 rfl hcl.1) ?_
        refine opt_intro (row_get hkg) ?_
        refine ck_intro (mkB8 (b := k.bits) (by omega) (by omega)) ?_
        refine br_intro (fun c => absurd (of_decide_eq_true c) (by omega)) (fun _ => ?_)
        refine ck_intro (inB1 rfl (by omega) (by omega)) ?_
        refine opt_intro (a := AV.t T.nils) (by show (rowsV kb N 5)[5]? = _; rw [rowsV_get, if_pos c, if_neg (Nat.lt_irrefl 5)]) ?_
        conv => whnf
        refine And.intro (fun j hj => by first | (cases hj; done) | exact LeX.append _ _ _ | exact LeX.refl _ _) ?_
        have hzr : List.replicate k.bits.toNat (T.int .i64 0) = (List.replicate (kb 5) (0 : Int)).map (T.int .i64) := by rw [List.map_replicate, hkb']
        conv => whnf
        refine ⟨⟨6, by omega⟩, ?_, by show N - 6 < N - 5; omega⟩
        show Weak _ _ ⟨mE0 f 6, [.box (descC d), .box [.t (.int .i64 0), .t (.int .u64 0), .t (.int .u64 0), .t (.int .u64 0), .t (.int .u64 0), .t .nils, .t (.bool false)], .arr tIs 1 false 0 (.vs (rowsV kb N 6)), .box [.t (.int .i64 (sz : Int)), .t (.int .u64 0), .t (.int .u64 0), .t (.int .u64 0), .t (.int .u64 0), .sl 2 0 0 N, .t (.bool false)], .box (formC f), .arr tI 1 false 0 (.ts ((List.replicate (kb 0) (0 : Int)).map (T.int .i64))), .arr tI 1 false 0 (.ts ((List.replicate (kb 1) (0 : Int)).map (T.int .i64))), .arr tI 1 false 0 (.ts ((List.replicate (kb 2) (0 : Int)).map (T.int .i64))), .arr tI 1 false 0 (.ts ((List.replicate (kb 3) (0 : Int)).map (T.int .i64))), .arr tI 1 false 0 (.ts ((List.replicate (kb 4) (0 : Int)).map (T.int .i64))), .arr tI 1 false 0 (.ts ((List.replicate (kb 5) (0 : Int)).map (T.int .i64)))]⟩
        exact weak_gc [0, 1, 2, 3, 4, 5, 6, 7, 8, 9, 11] rfl ⟨rfl, rfl, rfl, rfl, rfl, rfl, rfl, trivial⟩ ⟨rfl, rfl, (by refine rows_ren (kb := kb) c hN hkb' ?_; exact ⟨fun j hj => by rcases (show j = 0 ∨ j = 1 ∨ j = 2 ∨ j = 3 ∨ j = 4 by omega) with rfl | rfl | rfl | rfl | rfl <;> exact ⟨rfl, rfl⟩, rfl, rfl⟩), rfl, rfl, rfl, rfl, rfl, rfl, rfl, congrArg (fun l => some (Blk.arr tI 1 false 0 (.ts l))) hzr, trivial⟩
      · have c : 5 = N := by have := dge (a := 5) c; omega
        exact HQ _ _ ⟨rfl, _, 5, c, rfl⟩
    · refine br_intro (fun c => absurd (dlt (a := 6) c) (by omega)) (fun c => ?_)
      exact HQ _ _ ⟨rfl, _, 6, by omega, rfl⟩
  rintro _ _ ⟨rfl, b0, i, hiN, rfl⟩
  rcases (show i = 0 ∨ i = 1 ∨ i = 2 ∨ i = 3 ∨ i = 4 ∨ i = 5 ∨ i = 6 by omega) with rfl | rfl | rfl | rfl | rfl | rfl | rfl
  · subst hiN
    refine st_intro (n := ((n : Nat) : Int)) (by rw [IntKind.wrap_i64]; omega) ?_
    refine LoopN.at (s' := ⟨mE f 0 [], mH d sz n 0 (vsF kb 0) 0 0 0 0 0 false [] [] [] [] [] [] []⟩) ((Weak.more [.arr tI 1 false 0 (.ts []), .arr tI 1 false 0 (.ts []), .arr tI 1 false 0 (.ts []), .arr tI 1 false 0 (.ts []), .arr tI 1 false 0 (.ts []), .arr tI 1 false 0 (.ts [])]).trans ((Weak.vs0 (b := 2) rfl).trans (weak_gc [0, 1, 2, 3, 5, 6, 7, 8, 9, 10, 11, 12] rfl ⟨rfl, rfl, rfl, rfl, rfl, rfl, trivial⟩ ⟨rfl, rfl, rfl, rfl, rfl, rfl, rfl, rfl, rfl, rfl, rfl, rfl, trivial⟩))) (made_loop d hd f hfok hG L hL hLl h8 sz n 0 hn hpl hN kb (vsF kb 0) hkb hvs hvl hlen [] [] [] [] [] [] hMz _ ?_)
    intro b1 ip w m0 m1 w0 w1 lz c0 c1 c2 c3 c4 c5 hw hM
    obtain ⟨hAll, hcl⟩ := hend w m0 m1 w0 w1 lz [] hw hM
    exact ⟨.t (madeT sz m0 m1 w0 w1 lz []), ⟨m0, m1, w0, w1, lz, [], by rw [hsz, hL], hAll⟩, _, _, rfl, SubT.aggS ⟨.refl _, .refl _, .refl _, .refl _, .refl _, rows_sub (kb := kb) (C := []) hcl, .refl _, trivial⟩⟩
  · subst hiN
    refine st_intro (n := ((n : Nat) : Int)) (by rw [IntKind.wrap_i64]; omega) ?_
    refine LoopN.at (s' := ⟨mE f 0 [], mH d sz n 1 (vsF kb 1) 0 0 0 0 0 false (List.replicate (kb 0) 0) [] [] [] [] [] []⟩) ((Weak.more [.arr tI 1 false 0 (.ts []), .arr tI 1 false 0 (.ts []), .arr tI 1 false 0 (.ts []), .arr tI 1 false 0 (.ts []), .arr tI 1 false 0 (.ts [])]).trans (weak_gc [0, 1, 2, 3, 6, 7, 5, 8, 9, 10, 11, 12] rfl ⟨rfl, rfl, rfl, rfl, rfl, rfl, trivial⟩ ⟨rfl, rfl, rfl, rfl, rfl, rfl, rfl, rfl, rfl, rfl, rfl, rfl, trivial⟩)) (made_loop d hd f hfok hG L hL hLl h8 sz n 1 hn hpl hN kb (vsF kb 1) hkb hvs hvl hlen (List.replicate (kb 0) 0) [] [] [] [] [] hMz _ ?_)
    intro b1 ip w m0 m1 w0 w1 lz c0 c1 c2 c3 c4 c5 hw hM
    obtain ⟨hAll, hcl⟩ := hend w m0 m1 w0 w1 lz [c0] hw hM
    exact ⟨.t (madeT sz m0 m1 w0 w1 lz [c0]), ⟨m0, m1, w0, w1, lz, [c0], by rw [hsz, hL], hAll⟩, _, _, rfl, SubT.aggS ⟨.refl _, .refl _, .refl _, .refl _, .refl _, rows_sub (kb := kb) (C := [c0]) hcl, .refl _, trivial⟩⟩
  · subst hiN
    refine st_intro (n := ((n : Nat) : Int)) (by rw [IntKind.wrap_i64]; omega) ?_
    refine LoopN.at (s' := ⟨mE f 0 [], mH d sz n 2 (vsF kb 2) 0 0 0 0 0 false (List.replicate (kb 0) 0) (List.replicate (kb 1) 0) [] [] [] [] []⟩) ((Weak.more [.arr tI 1 false 0 (.ts []), .arr tI 1 false 0 (.ts []), .arr tI 1 false 0 (.ts []), .arr tI 1 false 0 (.ts [])]).trans (weak_gc [0, 1, 2, 3, 7, 8, 5, 6, 9, 10, 11, 12] rfl ⟨rfl, rfl, rfl, rfl, rfl, rfl, trivial⟩ ⟨rfl, rfl, rfl, rfl, rfl, rfl, rfl, rfl, rfl, rfl, rfl, rfl, trivial⟩)) (made_loop d hd f hfok hG L hL hLl h8 sz n 2 hn hpl hN kb (vsF kb 2) hkb hvs hvl hlen (List.replicate (kb 0) 0) (List.replicate (kb 1) 0) [] [] [] [] hMz _ ?_)
    intro b1 ip w m0 m1 w0 w1 lz c0 c1 c2 c3 c4 c5 hw hM
    obtain ⟨hAll, hcl⟩ := hend w m0 m1 w0 w1 lz [c0, c1] hw hM
    exact ⟨.t (madeT sz m0 m1 w0 w1 lz [c0, c1]), ⟨m0, m1, w0, w1, lz, [c0, c1], by rw [hsz, hL], hAll⟩, _, _, rfl, SubT.aggS ⟨.refl _, .refl _, .refl _, .refl _, .refl _, rows_sub (kb := kb) (C := [c0, c1]) hcl, .refl _, trivial⟩⟩
  · subst hiN
    refine st_intro (n := ((n : Nat) : Int)) (by rw [IntKind.wrap_i64]; omega) ?_
    refine LoopN.at (s' := ⟨mE f 0 [], mH d sz n 3 (vsF kb 3) 0 0 0 0 0 false (List.replicate (kb 0) 0) (List.replicate (kb 1) 0) (List.replicate (kb 2) 0) [] [] [] []⟩) ((Weak.more [.arr tI 1 false 0 (.ts []), .arr tI 1 false 0 (.ts []), .arr tI 1 false 0 (.ts [])]).trans (weak_gc [0, 1, 2, 3, 8, 9, 5, 6, 7, 10, 11, 12] rfl ⟨rfl, rfl, rfl, rfl, rfl, rfl, trivial⟩ ⟨rfl, rfl, rfl, rfl, rfl, rfl, rfl, rfl, rfl, rfl, rfl, rfl, trivial⟩)) (made_loop d hd f hfok hG L hL hLl h8 sz n 3 hn hpl hN kb (vsF kb 3) hkb hvs hvl hlen (List.replicate (kb 0) 0) (List.replicate (kb 1) 0) (List.replicate (kb 2) 0) [] [] [] hMz _ ?_)
    intro b1 ip w m0 m1 w0 w1 lz c0 c1 c2 c3 c4 c5 hw hM
    obtain ⟨hAll, hcl⟩ := hend w m0 m1 w0 w1 lz [c0, c1, c2] hw hM
    exact ⟨.t (madeT sz m0 m1 w0 w1 lz [c0, c1, c2]), ⟨m0, m1, w0, w1, lz, [c0, c1, c2], by rw [hsz, hL], hAll⟩, _, _, rfl, SubT.aggS ⟨.refl _, .refl _, .refl _, .refl _, .refl _, rows_sub (kb := kb) (C := [c0, c1, c2]) hcl, .refl _, trivial⟩⟩
  · subst hiN
    refine st_intro (n := ((n : Nat) : Int)) (by rw [IntKind.wrap_i64]; omega) ?_
    refine LoopN.at (s' := ⟨mE f 0 [], mH d sz n 4 (vsF kb 4) 0 0 0 0 0 false (List.replicate (kb 0) 0) (List.replicate (kb 1) 0) (List.replicate (kb 2) 0) (List.replicate (kb 3) 0) [] [] []⟩) ((Weak.more [.arr tI 1 false 0 (.ts []), .arr tI 1 false 0 (.ts [])]).trans (weak_gc [0, 1, 2, 3, 9, 10, 5, 6, 7, 8, 11, 12] rfl ⟨rfl, rfl, rfl, rfl, rfl, rfl, trivial⟩ ⟨rfl, rfl, rfl, rfl, rfl, rfl, rfl, rfl, rfl, rfl, rfl, rfl, trivial⟩)) (made_loop d hd f hfok hG L hL hLl h8 sz n 4 hn hpl hN kb (vsF kb 4) hkb hvs hvl hlen (List.replicate (kb 0) 0) (List.replicate (kb 1) 0) (List.replicate (kb 2) 0) (List.replicate (kb 3) 0) [] [] hMz _ ?_)
    intro b1 ip w m0 m1 w0 w1 lz c0 c1 c2 c3 c4 c5 hw hM
    obtain ⟨hAll, hcl⟩ := hend w m0 m1 w0 w1 lz [c0, c1, c2, c3] hw hM
    exact ⟨.t (madeT sz m0 m1 w0 w1 lz [c0, c1, c2, c3]), ⟨m0, m1, w0, w1, lz, [c0, c1, c2, c3], by rw [hsz, hL], hAll⟩, _, _, rfl, SubT.aggS ⟨.refl _, .refl _, .refl _, .refl _, .refl _, rows_sub (kb := kb) (C := [c0, c1, c2, c3]) hcl, .refl _, trivial⟩⟩
  · subst hiN
    refine st_intro (n := ((n : Nat) : Int)) (by rw [IntKind.wrap_i64]; omega) ?_
    refine LoopN.at (s' := ⟨mE f 0 [], mH d sz n 5 (vsF kb 5) 0 0 0 0 0 false (List.replicate (kb 0) 0) (List.replicate (kb 1) 0) (List.replicate (kb 2) 0) (List.replicate (kb 3) 0) (List.replicate (kb 4) 0) [] []⟩) ((Weak.more [.arr tI 1 false 0 (.ts [])]).trans (weak_gc [0, 1, 2, 3, 10, 11, 5, 6, 7, 8, 9, 12] rfl ⟨rfl, rfl, rfl, rfl, rfl, rfl, trivial⟩ ⟨rfl, rfl, rfl, rfl, rfl, rfl, rfl, rfl, rfl, rfl, rfl, rfl, trivial⟩)) (made_loop d hd f hfok hG L hL hLl h8 sz n 5 hn hpl hN kb (vsF kb 5) hkb hvs hvl hlen (List.replicate (kb 0) 0) (List.replicate (kb 1) 0) (List.replicate (kb 2) 0) (List.replicate (kb 3) 0) (List.replicate (kb 4) 0) [] hMz _ ?_)
    intro b1 ip w m0 m1 w0 w1 lz c0 c1 c2 c3 c4 c5 hw hM
    obtain ⟨hAll, hcl⟩ := hend w m0 m1 w0 w1 lz [c0, c1, c2, c3, c4] hw hM
    exact ⟨.t (madeT sz m0 m1 w0 w1 lz [c0, c1, c2, c3, c4]), ⟨m0, m1, w0, w1, lz, [c0, c1, c2, c3, c4], by rw [hsz, hL], hAll⟩, _, _, rfl, SubT.aggS ⟨.refl _, .refl _, .refl _, .refl _, .refl _, rows_sub (kb := kb) (C := [c0, c1, c2, c3, c4]) hcl, .refl _, trivial⟩⟩
  · subst hiN
    refine st_intro (n := ((n : Nat) : Int)) (by rw [IntKind.wrap_i64]; omega) ?_
    refine LoopN.at (s' := ⟨mE f 0 [], mH d sz n 6 (vsF kb 6) 0 0 0 0 0 false (List.replicate (kb 0) 0) (List.replicate (kb 1) 0) (List.replicate (kb 2) 0) (List.replicate (kb 3) 0) (List.replicate (kb 4) 0) (List.replicate (kb 5) 0) []⟩) ((Weak.more []).trans (weak_gc [0, 1, 2, 3, 11, 12, 5, 6, 7, 8, 9, 10] rfl ⟨rfl, rfl, rfl, rfl, rfl, rfl, trivial⟩ ⟨rfl, rfl, rfl, rfl, rfl, rfl, rfl, rfl, rfl, rfl, rfl, rfl, trivial⟩)) (made_loop d hd f hfok hG L hL hLl h8 sz n 6 hn hpl hN kb (vsF kb 6) hkb hvs hvl hlen (List.replicate (kb 0) 0) (List.replicate (kb 1) 0) (List.replicate (kb 2) 0) (List.replicate (kb 3) 0) (List.replicate (kb 4) 0) (List.replicate (kb 5) 0) hMz _ ?_)
    intro b1 ip w m0 m1 w0 w1 lz c0 c1 c2 c3 c4 c5 hw hM
    obtain ⟨hAll, hcl⟩ := hend w m0 m1 w0 w1 lz [c0, c1, c2, c3, c4, c5] hw hM
    exact ⟨.t (madeT sz m0 m1 w0 w1 lz [c0, c1, c2, c3, c4, c5]), ⟨m0, m1, w0, w1, lz, [c0, c1, c2, c3, c4, c5], by rw [hsz, hL], hAll⟩, _, _, rfl, SubT.aggS ⟨.refl _, .refl _, .refl _, .refl _, .refl _, rows_sub (kb := kb) (C := [c0, c1, c2, c3, c4, c5]) hcl, .refl _, trivial⟩⟩

end Go.Proofs.YtnjmeadmkbkikaaGreatDoor
