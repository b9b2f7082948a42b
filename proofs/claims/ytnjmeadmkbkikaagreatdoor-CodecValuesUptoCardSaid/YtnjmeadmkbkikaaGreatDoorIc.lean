/-
  A codec's pattern of a form with any number of operands: the loop over its pieces (walk).
-/
import Derived.Test.YtnjmeadmkbkikaaGreatDoorIb
import Derived.Test.YtnjmeadmkbkikaaGreatDoorFb
namespace Go.Proofs.YtnjmeadmkbkikaaGreatDoor
open Go.IntWalk
set_option maxRecDepth 100000
set_option linter.unusedVariables false
set_option linter.unusedSimpArgs false
set_option maxHeartbeats 8000000

abbrev mE (f : FormD) (ip : Nat) (back : List (Nat × AV)) : List (Nat × AV) := (4, .ptr 1 0 0 0) :: (6, .ptr 3 0 0 0) :: (11, .fn (.func 82) [] [.ptr 4 0 0 0, .ptr 0 0 0 0, .ptr 5 0 0 0]) :: (56, .t (.vecd 4 (f.pieces.map pieceT))) :: (57, .t (.int .i64 ((f.pieces.map pieceT).length : Int))) :: (58, .t (.int .i64 (ip : Int))) :: back
abbrev mH (d : DescD) (sz n N : Nat) (vs : List AV) (w m0 m1 w0 w1 : Nat) (lz : Bool) (c0 c1 c2 c3 c4 c5 : List Int) (extra : AH) : AH :=
  .box (descC d) :: .box [.t (.int .i64 0), .t (.int .u64 0), .t (.int .u64 0), .t (.int .u64 0), .t (.int .u64 0), .t .nils, .t (.bool false)] :: .arr tIs 1 false 0 (.vs vs) :: .box [.t (.int .i64 (sz : Int)), .t (.int .u64 ((m0 : Nat) : Int)), .t (.int .u64 ((m1 : Nat) : Int)), .t (.int .u64 ((w0 : Nat) : Int)), .t (.int .u64 ((w1 : Nat) : Int)), .sl 2 0 0 N, .t (.bool lz)] :: .box [.t (.int .i64 ((w : Nat) : Int))] :: .box [.t (.int .i64 (n : Int))] :: .arr tI 1 false 0 (.ts (c0.map (T.int .i64))) :: .arr tI 1 false 0 (.ts (c1.map (T.int .i64))) :: .arr tI 1 false 0 (.ts (c2.map (T.int .i64))) :: .arr tI 1 false 0 (.ts (c3.map (T.int .i64))) :: .arr tI 1 false 0 (.ts (c4.map (T.int .i64))) :: .arr tI 1 false 0 (.ts (c5.map (T.int .i64))) :: extra
noncomputable def madeBody : Code := loopAt Tryz.f36 1

theorem six_rows (b0 b1 b2 b3 b4 b5 : Blk) (l0 l1 l2 l3 l4 l5 : Sq) (e : AH) : ∀ j, j < 6 → ∃ l, (b0 :: b1 :: b2 :: b3 :: b4 :: b5 :: .arr tI 1 false 0 l0 :: .arr tI 1 false 0 l1 :: .arr tI 1 false 0 l2 :: .arr tI 1 false 0 l3 :: .arr tI 1 false 0 l4 :: .arr tI 1 false 0 l5 :: e : AH)[6 + j]? = some (.arr tI 1 false 0 l) := by
  intro j hj
  rcases (show j = 0 ∨ j = 1 ∨ j = 2 ∨ j = 3 ∨ j = 4 ∨ j = 5 by omega) with rfl | rfl | rfl | rfl | rfl | rfl <;> exact ⟨_, rfl⟩
/-- The outer row's slices keep their numbers. -/
theorem vs_ren {vs : List AV} (hv : ∀ x ∈ vs, ∃ j n, j < 6 ∧ x = .sl (6 + j) 0 0 n) (hl : vs.length ≤ 6) {H : AH} (h : ∀ j, j < 6 → ∃ l, H[6 + j]? = some (.arr tI 1 false 0 l)) (keep : List Nat) (hk : ∀ j, j < 6 → findI keep (6 + j) 0 = some (6 + j)) :
    (renL 0 64 keep H vs).map (fun l => Blk.arr tIs 1 false 0 (.vs l)) = some (.arr tIs 1 false 0 (.vs vs)) := by
  have e : renL 0 64 keep H vs = some vs := renL_same 64 vs (by omega) fun x hx m => by
    obtain ⟨j, n, hj, rfl⟩ := hv x hx
    obtain ⟨l, hH⟩ := h j hj
    have hz : Nat.blt (6 + j) 0 = false := rfl
    simp only [renF, hk j hj, hH, newG, hz]
    try rfl
  rw [e]; rfl
theorem take_tk {α : Type} {l : List α} {n j : Nat} (h : j < n) : (l.take n)[j]? = l[j]? := List.getElem?_take_of_lt h
theorem take_put {α : Type} (l : List α) (n j : Nat) (x : α) : (l.take n).set j x = (l.set j x).take n := by
  apply List.ext_getElem?
  intro i
  rw [List.getElem?_set, List.getElem?_take, List.getElem?_take, List.getElem?_set, List.length_take]
  by_cases h1 : j = i <;> by_cases h2 : i < n <;> by_cases h3 : i < l.length <;> simp [h1, h2, h3] <;> omega
/-- The place of the next bit. -/
theorem place_calls (d : DescD) (sz n N : Nat) (vs : List AV) (w m0 m1 w0 w1 : Nat) (lz : Bool) (c0 c1 c2 c3 c4 c5 : List Int) (p : PieceD) (L : List BitD) (hn : n = L.length) (hLl : L.length ≤ 120) (h8 : L.length % 8 = 0) (hw : w < L.length) (pos : Nat) (hpos : pos = posN d.order L.length w) :
    CallS Tryz.prog 82 [.ptr 4 0 0 0, .ptr 0 0 0 0, .ptr 5 0 0 0] (mH d sz n N vs w m0 m1 w0 w1 lz c0 c1 c2 c3 c4 c5 [.box [.t (.str p.lit), .t (.int .i64 p.arg), .t (.int .i64 p.hi), .t (.int .i64 p.lo)]]) (fun v H' => v = .t (.int .i64 ((pos : Nat) : Int)) ∧ H' = (mH d sz n N vs (w + 1) m0 m1 w0 w1 lz c0 c1 c2 c3 c4 c5 [.box [.t (.str p.lit), .t (.int .i64 p.arg), .t (.int .i64 p.hi), .t (.int .i64 p.lo)]])) := by
  have hposl : pos < L.length := by rw [hpos]; exact posN_lt (by omega) h8
  refine CallS.of_fn tabS_ok regS_ok Tryz.func82 rfl rfl ?_
  refine st_intro (n := (((w) + 1 : Nat) : Int)) (nat_in (n := (w) + 1) (by omega)) ?_
  refine br_intro (fun co => ?_) (fun co => ?_)
  · have co : d.order = 1 := by simpa using co
    rw [posN_word co] at hpos
    obtain ⟨n1, hn1⟩ : ∃ n1, n1 = n - 1 := ⟨_, rfl⟩
    refine st_intro (n := ((n1 : Nat) : Int)) (by rw [IntKind.wrap_i64]; omega) ?_
    refine st_intro (n := ((pos : Nat) : Int)) (nat_sub (a := pos) (b := w) (c := n1) (by omega) (by omega)) ?_
    exact ⟨rfl, rfl⟩
  · have co : ¬ d.order = 1 := by simpa using co
    rw [posN_bytes co] at hpos
    obtain ⟨q, hq⟩ : ∃ q, q = w / 8 := ⟨_, rfl⟩
    obtain ⟨rm, hrm⟩ : ∃ rm, rm = w % 8 := ⟨_, rfl⟩
    obtain ⟨q8, hq8⟩ : ∃ z, z = q * 8 := ⟨_, rfl⟩
    obtain ⟨q7, hq7⟩ : ∃ z, z = q8 + 7 := ⟨_, rfl⟩
    refine ck_intro rfl ?_
    refine st_intro (n := ((q : Nat) : Int)) (show IntKind.i64.wrap (((w : Nat) : Int).tdiv 8) = _ from by rw [Int.tdiv_eq_ediv_of_nonneg (by omega), IntKind.wrap_i64]; omega) ?_
    refine st_intro (n := ((q8 : Nat) : Int)) (show IntKind.i64.wrap (((q : Nat) : Int) * 8) = _ from by rw [IntKind.wrap_i64]; omega) ?_
    refine st_intro (n := ((q7 : Nat) : Int)) (show IntKind.i64.wrap (((q8 : Nat) : Int) + 7) = _ from by rw [IntKind.wrap_i64]; omega) ?_
    refine ck_intro rfl ?_
    refine st_intro (n := ((rm : Nat) : Int)) (show (((w) : Nat) : Int).tmod 8 = _ from by rw [Int.tmod_eq_emod_of_nonneg (by omega)]; omega) ?_
    refine st_intro (n := ((pos : Nat) : Int)) (show IntKind.i64.wrap (((q7 : Nat) : Int) - ((rm : Nat) : Int)) = _ from by rw [IntKind.wrap_i64]; omega) ?_
    exact ⟨rfl, rfl⟩

theorem made_loop (d : DescD) (hd : d.ok) (f : FormD) (hfok : f.ok) (hG : GoodF d f) (L : List BitD) (hL : L = rawB f.pieces) (hLl : L.length ≤ 120) (h8 : L.length % 8 = 0) (sz n N : Nat) (hn : n = L.length) (hpl : f.pieces.length ≤ 9223372036854775807) (hN : N ≤ 6) (kb : Nat → Nat) (vs : List AV)
    (hkb : ∀ j, j < N → ∃ a k, f.args[j]? = some a ∧ at? d.classes a.cls = some k ∧ k.bits.toNat = kb j ∧ 1 ≤ k.bits ∧ k.bits ≤ 64)
    (hvs : ∀ j, j < N → vs[j]? = some (.sl (6 + j) 0 0 (kb j))) (hvl : vs.length = N) (hlen : f.args.length = N)
    (z0 z1 z2 z3 z4 z5 : List Int) (hMz : MInv d f L 0 0 0 0 0 false ([z0, z1, z2, z3, z4, z5].take N)) (Q : Ex → St → Prop)
    (HQ : ∀ (b0 : AV) (ip w m0 m1 w0 w1 : Nat) (lz : Bool) (c0 c1 c2 c3 c4 c5 : List Int), w = L.length → MInv d f L w m0 m1 w0 w1 lz ([c0, c1, c2, c3, c4, c5].take N) → Q (.exit 2) ⟨((59, b0) :: mE f ip []), (mH d sz n N vs w m0 m1 w0 w1 lz c0 c1 c2 c3 c4 c5 [])⟩) :
    LoopN 0 (xcode tabS (CallS Tryz.prog) regS 0 madeBody) Q ⟨(mE f 0 []), (mH d sz n N vs 0 0 0 0 0 false z0 z1 z2 z3 z4 z5 [])⟩ := by
  have hmP : (f.pieces.map pieceT).length = f.pieces.length := by simp
  have hvx : ∀ x ∈ vs, ∃ j n, j < 6 ∧ x = .sl (6 + j) 0 0 n := fun x hx => by
    obtain ⟨j, hj⟩ := List.mem_iff_getElem?.1 hx
    have hjl := (List.getElem?_eq_some_iff.1 hj).1
    rw [hvs j (by omega)] at hj
    exact ⟨j, _, by omega, (Option.some.inj hj).symm⟩
  have hvl6 : vs.length ≤ 6 := by omega
  have gV := fun (H : AH) (h : ∀ j, j < 6 → ∃ l, H[6 + j]? = some (.arr tI 1 false 0 l)) => vs_ren hvx hvl6 h
  refine loopN_on (fun s : Nat × Nat × Nat × Nat × Nat × Nat × Bool × List Int × List Int × List Int × List Int × List Int × List Int => s.1 ≤ f.pieces.length ∧ s.2.1 = (rawB (f.pieces.take s.1)).length ∧ MInv d f L s.2.1 s.2.2.1 s.2.2.2.1 s.2.2.2.2.1 s.2.2.2.2.2.1 s.2.2.2.2.2.2.1 ([s.2.2.2.2.2.2.2.1, s.2.2.2.2.2.2.2.2.1, s.2.2.2.2.2.2.2.2.2.1, s.2.2.2.2.2.2.2.2.2.2.1, s.2.2.2.2.2.2.2.2.2.2.2.1, s.2.2.2.2.2.2.2.2.2.2.2.2].take N)) (fun s => ⟨(mE f s.1 []), (mH d sz n N vs s.2.1 s.2.2.1 s.2.2.2.1 s.2.2.2.2.1 s.2.2.2.2.2.1 s.2.2.2.2.2.2.1 s.2.2.2.2.2.2.2.1 s.2.2.2.2.2.2.2.2.1 s.2.2.2.2.2.2.2.2.2.1 s.2.2.2.2.2.2.2.2.2.2.1 s.2.2.2.2.2.2.2.2.2.2.2.1 s.2.2.2.2.2.2.2.2.2.2.2.2 [])⟩)
    (fun s => f.pieces.length - s.1) (0, 0, 0, 0, 0, 0, false, z0, z1, z2, z3, z4, z5) ⟨Nat.zero_le _, rfl, hMz⟩ (Weak.refl _) (fun ⟨ip, w, m0, m1, w0, w1, lz, c0, c1, c2, c3, c4, c5⟩ ⟨hip, hw, hM⟩ => ?_)
  have hip : ip ≤ f.pieces.length := hip
  have hw : w = (rawB (f.pieces.take ip)).length := hw
  have hM : MInv d f L w m0 m1 w0 w1 lz ([c0, c1, c2, c3, c4, c5].take N) := hM
  refine br_intro (fun c => ?_) (fun c => ?_)
  rotate_left 1
  · have c : ip = f.pieces.length := by have := dge c; omega
    exact HQ _ ip w m0 m1 w0 w1 lz c0 c1 c2 c3 c4 c5 (by rw [hw, c, List.take_length, hL]) hM
  have hip1 : ip < f.pieces.length := by have := dlt c; omega
  obtain ⟨p, hp, hpm⟩ := get_some (R := f.pieces) (i := ip) hip1
  have hrw : rawB (f.pieces.take (ip + 1)) = rawB (f.pieces.take ip) ++ rawP p := rawB_succ hp
  have hLe : L = (rawB (f.pieces.take ip) ++ rawP p) ++ rawB (f.pieces.drop (ip + 1)) := by rw [← hrw, ← rawB_app, List.take_append_drop, hL]
  have hLen : w + (rawP p).length ≤ L.length := by rw [hLe, hw]; simp
  have hLg : ∀ t, t < (rawP p).length → L[w + t]? = (rawP p)[t]? := fun t ht => by
    rw [hLe, hw, List.getElem?_append_left (by simp; omega), List.getElem?_append_right (by omega)]; congr 1; omega
  have hwn : (rawB (f.pieces.take (ip + 1))).length = w + (rawP p).length := by rw [hrw, List.length_append, hw]
  refine opt_intro (show (f.pieces.map pieceT)[((ip : Nat) : Int).toNat]? = some (pieceT p) from by rw [Int.toNat_natCast, List.getElem?_map, hp]; rfl) ?_
  rcases hG.pok p hpm with ⟨ca, _, hbits⟩ | ⟨ca, g, k, hg, hk, q1, q2, q3⟩
  · have hrp : rawP p = p.lit.map litBit := by rw [rawP, if_pos ca]
    have hpn : (rawP p).length = p.lit.length := by rw [hrp, List.length_map]
    refine br_intro (fun _ => ?_) (fun c => absurd (of_decide_eq_false c) (by omega))
    refine loop_then (fun e s' => e = .exit 4 ∧ ∃ (b0 b1 : AV) (m0 m1 w0 w1 : Nat) (lz : Bool), MInv d f L (w + p.lit.length) m0 m1 w0 w1 lz ([c0, c1, c2, c3, c4, c5].take N) ∧ s' = ⟨((69, b0) :: (68, b1) :: mE f ip [(13, .ptr 12 0 0 0), (67, .ptr 13 0 0 0)]), (mH d sz n N vs (w + p.lit.length) m0 m1 w0 w1 lz c0 c1 c2 c3 c4 c5 [.box [.t (.str p.lit), .t (.int .i64 p.arg), .t (.int .i64 p.hi), .t (.int .i64 p.lo)], .iter p.lit p.lit.length])⟩) (fun HQ2' HQ2 => ?_) ?_
    · refine loop_on (fun s : Nat × Nat × Nat × Nat × Nat × Bool => s.1 ≤ p.lit.length ∧ MInv d f L (w + s.1) s.2.1 s.2.2.1 s.2.2.2.1 s.2.2.2.2.1 s.2.2.2.2.2 ([c0, c1, c2, c3, c4, c5].take N)) (fun s => ⟨(mE f ip [(13, .ptr 12 0 0 0), (67, .ptr 13 0 0 0)]), (mH d sz n N vs (w + s.1) s.2.1 s.2.2.1 s.2.2.2.1 s.2.2.2.2.1 s.2.2.2.2.2 c0 c1 c2 c3 c4 c5 [.box [.t (.str p.lit), .t (.int .i64 p.arg), .t (.int .i64 p.hi), .t (.int .i64 p.lo)], .iter p.lit s.1])⟩)
        (fun s => p.lit.length - s.1) (0, m0, m1, w0, w1, lz) ⟨Nat.zero_le _, hM⟩ ?_ (fun ⟨j, m0, m1, w0, w1, lz⟩ ⟨hj, hM⟩ => ?_)
      · exact weak_of ⟨rfl, rfl, rfl, rfl, rfl, rfl, rfl, rfl, trivial⟩ rfl
      have hj : j ≤ p.lit.length := hj
      have hM : MInv d f L (w + j) m0 m1 w0 w1 lz ([c0, c1, c2, c3, c4, c5].take N) := hM
      obtain ⟨hm0, hm1, _⟩ := hM.mask
      obtain ⟨hw0, hw1, _⟩ := hM.want
      by_cases hjl : j < p.lit.length
      · obtain ⟨x, hx, hxm⟩ := get_some (R := p.lit) (i := j) hjl
        have hLx : L[w + j]? = some (litBit x) := by rw [hLg j (by omega), hrp, List.getElem?_map, hx]; rfl
        have hx128 : x.toNat < 128 := by have := hbits x hxm; unfold isBit at this; simp at this; omega
        obtain ⟨pos, hpos⟩ : ∃ pos, pos = posN d.order L.length (w + j) := ⟨_, rfl⟩
        have hposl : pos < L.length := by rw [hpos]; exact posN_lt (by omega) h8
        conv => whnf
        have hx' : p.lit[((j, m0, m1, w0, w1, lz) : Nat × Nat × Nat × Nat × Nat × Bool).fst]? = some x := hx
        rw [hx']
        refine ck_intro (show Nat.blt x.toNat 128 = true from by simpa [Nat.blt_eq] using hx128) ?_
        refine CallS.mono (Q := fun v H' => v = .t (.int .i64 ((pos : Nat) : Int)) ∧ H' = (mH d sz n N vs (w + j + 1) m0 m1 w0 w1 lz c0 c1 c2 c3 c4 c5 [.box [.t (.str p.lit), .t (.int .i64 p.arg), .t (.int .i64 p.hi), .t (.int .i64 p.lo)], .iter p.lit (j + 1)])) ?_ ?_
        · obtain ⟨w9, hw9⟩ : ∃ w9, w9 = w + j := ⟨_, rfl⟩
          have hposK := hpos
          rw [← hw9] at hpos ⊢
          refine CallS.of_fn tabS_ok regS_ok Tryz.func82 rfl rfl ?_
          refine st_intro (n := ((w9 + 1 : Nat) : Int)) (nat_in (n := w9 + 1) (by omega)) ?_
          refine br_intro (fun co => ?_) (fun co => ?_)
          · have co : d.order = 1 := by simpa using co
            rw [posN_word co] at hpos
            obtain ⟨n1, hn1⟩ : ∃ n1, n1 = n - 1 := ⟨_, rfl⟩
            refine st_intro (n := ((n1 : Nat) : Int)) (by rw [IntKind.wrap_i64]; omega) ?_
            refine st_intro (n := ((pos : Nat) : Int)) (nat_sub (a := pos) (b := w9) (c := n1) (by omega) (by omega)) ?_
            exact ⟨rfl, rfl⟩
          · have co : ¬ d.order = 1 := by simpa using co
            rw [posN_bytes co] at hpos
            obtain ⟨q, hq⟩ : ∃ q, q = w9 / 8 := ⟨_, rfl⟩
            obtain ⟨rm, hrm⟩ : ∃ rm, rm = w9 % 8 := ⟨_, rfl⟩
            obtain ⟨q8, hq8⟩ : ∃ z, z = q * 8 := ⟨_, rfl⟩
            obtain ⟨q7, hq7⟩ : ∃ z, z = q8 + 7 := ⟨_, rfl⟩
            refine ck_intro rfl ?_
            refine st_intro (n := ((q : Nat) : Int)) (show IntKind.i64.wrap (((w9 : Nat) : Int).tdiv 8) = _ from by rw [Int.tdiv_eq_ediv_of_nonneg (by omega), IntKind.wrap_i64]; omega) ?_
            refine st_intro (n := ((q8 : Nat) : Int)) (show IntKind.i64.wrap (((q : Nat) : Int) * 8) = _ from by rw [IntKind.wrap_i64]; omega) ?_
            refine st_intro (n := ((q7 : Nat) : Int)) (show IntKind.i64.wrap (((q8 : Nat) : Int) + 7) = _ from by rw [IntKind.wrap_i64]; omega) ?_
            refine ck_intro rfl ?_
            refine st_intro (n := ((rm : Nat) : Int)) (show ((w9 : Nat) : Int).tmod 8 = _ from by rw [Int.tmod_eq_emod_of_nonneg (by omega)]; omega) ?_
            refine st_intro (n := ((pos : Nat) : Int)) (show IntKind.i64.wrap (((q7 : Nat) : Int) - ((rm : Nat) : Int)) = _ from by rw [IntKind.wrap_i64]; omega) ?_
            exact ⟨rfl, rfl⟩
        rintro _ _ ⟨rfl, rfl⟩
        refine opt_intro (show p.lit[((j : Nat) : Int).toNat]? = some x from by rw [Int.toNat_natCast]; exact hx) ?_
        by_cases hp64 : pos < 64
        · skip
          have hxl : x.toNat = 48 ∨ x.toNat = 49 ∨ x.toNat = 120 := by have := hbits x hxm; unfold isBit at this; simp at this; omega
          refine br_intro (fun c9 => ?_) (fun c9 => ?_)
          · have hc : (litBit x).lit = 49 := by have h : (((x.toNat : Nat) : Int) == 49) = true := c9; simp at h; show x.toNat = 49; omega
            refine CallS.of_fn tabS_ok regS_ok Tryz.func39 rfl rfl ?_
            refine draw_introS ord_39_0 (by decide +kernel) ?_
            refine ck_intro rfl ?_
            refine st_intro (n := 0) (show IntKind.i64.wrap (((pos : Nat) : Int).tdiv 64) = 0 from by rw [Int.tdiv_eq_ediv_of_nonneg (by omega), IntKind.wrap_i64]; omega) ?_
            refine ck_intro rfl ?_
            refine st_intro (n := ((pos : Nat) : Int)) (show ((pos : Nat) : Int).tmod 64 = _ from by rw [Int.tmod_eq_emod_of_nonneg (by omega)]; omega) ?_
            refine ck_intro (decide_eq_true (show (0 : Int) ≤ ((pos : Nat) : Int) by omega)) ?_
            refine st_intro (n := ((2 ^ pos : Nat) : Int)) (u64bit rfl (by omega)) ?_
            refine st_intro (n := ((w0 ||| 2 ^ pos : Nat) : Int)) (u64or hw0 (pow64 (by omega))) ?_
            refine And.intro (fun j hj => by cases hj) ?_
            refine CallS.of_fn tabS_ok regS_ok Tryz.func39 rfl rfl ?_
            refine draw_introS ord_39_0 (by decide +kernel) ?_
            refine ck_intro rfl ?_
            refine st_intro (n := 0) (show IntKind.i64.wrap (((pos : Nat) : Int).tdiv 64) = 0 from by rw [Int.tdiv_eq_ediv_of_nonneg (by omega), IntKind.wrap_i64]; omega) ?_
            refine ck_intro rfl ?_
            refine st_intro (n := ((pos : Nat) : Int)) (show ((pos : Nat) : Int).tmod 64 = _ from by rw [Int.tmod_eq_emod_of_nonneg (by omega)]; omega) ?_
            refine ck_intro (decide_eq_true (show (0 : Int) ≤ ((pos : Nat) : Int) by omega)) ?_
            refine st_intro (n := ((2 ^ pos : Nat) : Int)) (u64bit rfl (by omega)) ?_
            refine st_intro (n := ((m0 ||| 2 ^ pos : Nat) : Int)) (u64or hm0 (pow64 (by omega))) ?_
            refine And.intro (fun j hj => by cases hj) ?_
            conv => whnf
            exact ⟨⟨(j + 1, m0 ||| 2 ^ pos, m1, w0 ||| 2 ^ pos, w1, lz), hjl, (by have := (hM.one h8 hLx (by show (-1 : Int) < 0; omega) hc).1; rw [← hpos] at this; exact this hp64)⟩, weak_of ⟨rfl, rfl, rfl, rfl, rfl, rfl, rfl, rfl, trivial⟩ rfl, by show p.lit.length - (j + 1) < p.lit.length - j; omega⟩
          refine br_intro (fun c8 => ?_) (fun c8 => ?_)
          · have hc : (litBit x).lit = 48 := by have h : (((x.toNat : Nat) : Int) == 48) = true := c8; simp at h; show x.toNat = 48; omega
            refine CallS.of_fn tabS_ok regS_ok Tryz.func39 rfl rfl ?_
            refine draw_introS ord_39_0 (by decide +kernel) ?_
            refine ck_intro rfl ?_
            refine st_intro (n := 0) (show IntKind.i64.wrap (((pos : Nat) : Int).tdiv 64) = 0 from by rw [Int.tdiv_eq_ediv_of_nonneg (by omega), IntKind.wrap_i64]; omega) ?_
            refine ck_intro rfl ?_
            refine st_intro (n := ((pos : Nat) : Int)) (show ((pos : Nat) : Int).tmod 64 = _ from by rw [Int.tmod_eq_emod_of_nonneg (by omega)]; omega) ?_
            refine ck_intro (decide_eq_true (show (0 : Int) ≤ ((pos : Nat) : Int) by omega)) ?_
            refine st_intro (n := ((2 ^ pos : Nat) : Int)) (u64bit rfl (by omega)) ?_
            refine st_intro (n := ((m0 ||| 2 ^ pos : Nat) : Int)) (u64or hm0 (pow64 (by omega))) ?_
            refine And.intro (fun j hj => by cases hj) ?_
            conv => whnf
            exact ⟨⟨(j + 1, m0 ||| 2 ^ pos, m1, w0, w1, lz), hjl, (by have := (hM.zero h8 hLx (by show (-1 : Int) < 0; omega) hc).1; rw [← hpos] at this; exact this hp64)⟩, weak_of ⟨rfl, rfl, rfl, rfl, rfl, rfl, rfl, rfl, trivial⟩ rfl, by show p.lit.length - (j + 1) < p.lit.length - j; omega⟩
          · have hc : (litBit x).lit = 120 := by
              have h9 : (((x.toNat : Nat) : Int) == 49) = false := c9
              have h8' : (((x.toNat : Nat) : Int) == 48) = false := c8
              simp at h9 h8'; show x.toNat = 120; omega
            conv => whnf
            exact ⟨⟨(j + 1, m0, m1, w0, w1, true), hjl, hM.free h8 hLx (by show (-1 : Int) < 0; omega) hc⟩, weak_of ⟨rfl, rfl, rfl, rfl, rfl, rfl, rfl, rfl, trivial⟩ rfl, by show p.lit.length - (j + 1) < p.lit.length - j; omega⟩
        · obtain ⟨kq, hkq⟩ : ∃ kq, pos = 64 + kq := ⟨pos - 64, by omega⟩
          have hxl : x.toNat = 48 ∨ x.toNat = 49 ∨ x.toNat = 120 := by have := hbits x hxm; unfold isBit at this; simp at this; omega
          refine br_intro (fun c9 => ?_) (fun c9 => ?_)
          · have hc : (litBit x).lit = 49 := by have h : (((x.toNat : Nat) : Int) == 49) = true := c9; simp at h; show x.toNat = 49; omega
            refine CallS.of_fn tabS_ok regS_ok Tryz.func39 rfl rfl ?_
            refine draw_introS ord_39_0 (by decide +kernel) ?_
            refine ck_intro rfl ?_
            refine st_intro (n := 1) (show IntKind.i64.wrap (((pos : Nat) : Int).tdiv 64) = 1 from by rw [Int.tdiv_eq_ediv_of_nonneg (by omega), IntKind.wrap_i64]; omega) ?_
            refine ck_intro rfl ?_
            refine st_intro (n := ((kq : Nat) : Int)) (show ((pos : Nat) : Int).tmod 64 = _ from by rw [Int.tmod_eq_emod_of_nonneg (by omega)]; omega) ?_
            refine ck_intro (decide_eq_true (show (0 : Int) ≤ ((kq : Nat) : Int) by omega)) ?_
            refine st_intro (n := ((2 ^ kq : Nat) : Int)) (u64bit rfl (by omega)) ?_
            refine st_intro (n := ((w1 ||| 2 ^ kq : Nat) : Int)) (u64or hw1 (pow64 (by omega))) ?_
            refine And.intro (fun j hj => by cases hj) ?_
            refine CallS.of_fn tabS_ok regS_ok Tryz.func39 rfl rfl ?_
            refine draw_introS ord_39_0 (by decide +kernel) ?_
            refine ck_intro rfl ?_
            refine st_intro (n := 1) (show IntKind.i64.wrap (((pos : Nat) : Int).tdiv 64) = 1 from by rw [Int.tdiv_eq_ediv_of_nonneg (by omega), IntKind.wrap_i64]; omega) ?_
            refine ck_intro rfl ?_
            refine st_intro (n := ((kq : Nat) : Int)) (show ((pos : Nat) : Int).tmod 64 = _ from by rw [Int.tmod_eq_emod_of_nonneg (by omega)]; omega) ?_
            refine ck_intro (decide_eq_true (show (0 : Int) ≤ ((kq : Nat) : Int) by omega)) ?_
            refine st_intro (n := ((2 ^ kq : Nat) : Int)) (u64bit rfl (by omega)) ?_
            refine st_intro (n := ((m1 ||| 2 ^ kq : Nat) : Int)) (u64or hm1 (pow64 (by omega))) ?_
            refine And.intro (fun j hj => by cases hj) ?_
            conv => whnf
            exact ⟨⟨(j + 1, m0, m1 ||| 2 ^ kq, w0, w1 ||| 2 ^ kq, lz), hjl, (by have := (hM.one h8 hLx (by show (-1 : Int) < 0; omega) hc).2 kq; rw [← hpos] at this; exact this hkq (by omega))⟩, weak_of ⟨rfl, rfl, rfl, rfl, rfl, rfl, rfl, rfl, trivial⟩ rfl, by show p.lit.length - (j + 1) < p.lit.length - j; omega⟩
          refine br_intro (fun c8 => ?_) (fun c8 => ?_)
          · have hc : (litBit x).lit = 48 := by have h : (((x.toNat : Nat) : Int) == 48) = true := c8; simp at h; show x.toNat = 48; omega
            refine CallS.of_fn tabS_ok regS_ok Tryz.func39 rfl rfl ?_
            refine draw_introS ord_39_0 (by decide +kernel) ?_
            refine ck_intro rfl ?_
            refine st_intro (n := 1) (show IntKind.i64.wrap (((pos : Nat) : Int).tdiv 64) = 1 from by rw [Int.tdiv_eq_ediv_of_nonneg (by omega), IntKind.wrap_i64]; omega) ?_
            refine ck_intro rfl ?_
            refine st_intro (n := ((kq : Nat) : Int)) (show ((pos : Nat) : Int).tmod 64 = _ from by rw [Int.tmod_eq_emod_of_nonneg (by omega)]; omega) ?_
            refine ck_intro (decide_eq_true (show (0 : Int) ≤ ((kq : Nat) : Int) by omega)) ?_
            refine st_intro (n := ((2 ^ kq : Nat) : Int)) (u64bit rfl (by omega)) ?_
            refine st_intro (n := ((m1 ||| 2 ^ kq : Nat) : Int)) (u64or hm1 (pow64 (by omega))) ?_
            refine And.intro (fun j hj => by cases hj) ?_
            conv => whnf
            exact ⟨⟨(j + 1, m0, m1 ||| 2 ^ kq, w0, w1, lz), hjl, (by have := (hM.zero h8 hLx (by show (-1 : Int) < 0; omega) hc).2 kq; rw [← hpos] at this; exact this hkq (by omega))⟩, weak_of ⟨rfl, rfl, rfl, rfl, rfl, rfl, rfl, rfl, trivial⟩ rfl, by show p.lit.length - (j + 1) < p.lit.length - j; omega⟩
          · have hc : (litBit x).lit = 120 := by
              have h9 : (((x.toNat : Nat) : Int) == 49) = false := c9
              have h8' : (((x.toNat : Nat) : Int) == 48) = false := c8
              simp at h9 h8'; show x.toNat = 120; omega
            conv => whnf
            exact ⟨⟨(j + 1, m0, m1, w0, w1, true), hjl, hM.free h8 hLx (by show (-1 : Int) < 0; omega) hc⟩, weak_of ⟨rfl, rfl, rfl, rfl, rfl, rfl, rfl, rfl, trivial⟩ rfl, by show p.lit.length - (j + 1) < p.lit.length - j; omega⟩
      · have hjl : j = p.lit.length := by omega
        conv => whnf
        have hx' : p.lit[((j, m0, m1, w0, w1, lz) : Nat × Nat × Nat × Nat × Nat × Bool).fst]? = none := List.getElem?_eq_none (by show p.lit.length ≤ j; omega)
        rw [hx']
        exact HQ2 _ _ ⟨rfl, _, _, m0, m1, w0, w1, lz, by rw [← hjl]; exact hM, by rw [← hjl]; rfl⟩
    rintro _ _ ⟨rfl, b0, b1, m0, m1, w0, w1, lz, hM, rfl⟩
    refine st_intro (n := ((ip + 1 : Nat) : Int)) (nat_in (n := ip + 1) (by omega)) ?_
    conv => whnf
    exact ⟨⟨(ip + 1, w + p.lit.length, m0, m1, w0, w1, lz, c0, c1, c2, c3, c4, c5), hip1, by show w + p.lit.length = _; rw [hwn, hpn], hM⟩, weak_gc [0, 1, 2, 3, 4, 5, 6, 7, 8, 9, 10, 11] rfl ⟨rfl, rfl, rfl, rfl, rfl, rfl, trivial⟩ ⟨rfl, rfl, gV _ (six_rows _ _ _ _ _ _ _ _ _ _ _ _ _) _ (by decide), rfl, rfl, rfl, rfl, rfl, rfl, rfl, rfl, rfl, trivial⟩, by show f.pieces.length - (ip + 1) < f.pieces.length - ip; omega⟩
  · have hpa := at_lt hg
    have hrp : rawP p = opBits p.arg p.hi (pieceN p) := by rw [rawP, if_neg ca]
    obtain ⟨T0, hT0⟩ : ∃ T0, T0 = pieceN p := ⟨_, rfl⟩
    have hT1 : T0 = (p.hi - p.lo + 1).toNat := hT0
    rw [← hT0] at hrp
    have hpn : (rawP p).length = T0 := by rw [hrp, opBits_len]
    obtain ⟨ai, hai⟩ : ∃ ai : Nat, p.arg = ai := ⟨p.arg.toNat, by omega⟩
    have haiN : ai < N := by omega
    have hga : f.args[ai]? = some g := by
      have := hg
      unfold at? at this
      rw [if_pos hpa.1, hai, Int.toNat_natCast] at this; exact this
    have hkbk : k.bits.toNat = kb ai := by
      obtain ⟨a, k', h1, h2, h3, _⟩ := hkb ai haiN
      rw [hga] at h1; cases h1
      rw [hk] at h2; cases h2; exact h3
    have hvr := hvs ai haiN
    refine br_intro (fun c => absurd (of_decide_eq_true c) (by omega)) (fun _ => ?_)
    rcases (show ai = 0 ∨ ai = 1 ∨ ai = 2 ∨ ai = 3 ∨ ai = 4 ∨ ai = 5 by omega) with rfl | rfl | rfl | rfl | rfl | rfl
    · skip
      refine loop_then (fun e s' => e = .exit 7 ∧ ∃ (b0 b1 b2 b3 : AV) (cj : List Int), MInv d f L (w + T0) m0 m1 w0 w1 lz ([cj, c1, c2, c3, c4, c5].take N) ∧ s' = ⟨((96, b0) :: (95, b1) :: (94, b2) :: (93, b3) :: mE f ip [(13, .ptr 12 0 0 0), (16, .t (.int .i64 (p.hi - ((T0 : Nat) : Int))))]), (mH d sz n N vs (w + T0) m0 m1 w0 w1 lz cj c1 c2 c3 c4 c5 [.box [.t (.str p.lit), .t (.int .i64 p.arg), .t (.int .i64 p.hi), .t (.int .i64 p.lo)]])⟩) (fun HQ2' HQ2 => ?_) ?_
      · refine loop_on (fun s : Nat × List Int => s.1 ≤ T0 ∧ MInv d f L (w + s.1) m0 m1 w0 w1 lz ([s.2, c1, c2, c3, c4, c5].take N)) (fun s => ⟨(mE f ip [(13, .ptr 12 0 0 0), (16, .t (.int .i64 (p.hi - ((s.1 : Nat) : Int))))]), (mH d sz n N vs (w + s.1) m0 m1 w0 w1 lz s.2 c1 c2 c3 c4 c5 [.box [.t (.str p.lit), .t (.int .i64 p.arg), .t (.int .i64 p.hi), .t (.int .i64 p.lo)]])⟩)
          (fun s => T0 - s.1) (0, c0) ⟨Nat.zero_le _, hM⟩ ?_ (fun ⟨mm, cj⟩ ⟨hmm, hM⟩ => ?_)
        · exact weak_of ⟨rfl, rfl, rfl, rfl, rfl, rfl, rfl, by show AV.t (T.int .i64 p.hi) = AV.t (T.int .i64 (p.hi - ((0 : Nat) : Int))); simp, trivial⟩ rfl
        have hmm : mm ≤ T0 := hmm
        have hM : MInv d f L (w + mm) m0 m1 w0 w1 lz ([cj, c1, c2, c3, c4, c5].take N) := hM
        have hcjl := (hM.rows 0 g k cj hga hk (take_tk haiN)).1
        refine br_intro (fun c7 => ?_) (fun c7 => ?_)
        · have c7 : p.hi - (mm : Int) ≥ p.lo := of_decide_eq_true c7
          obtain ⟨o, ho⟩ : ∃ o : Nat, p.hi - (mm : Int) = o := ⟨(p.hi - mm).toNat, by omega⟩
          have hLx : L[w + mm]? = some ⟨0, p.arg, p.hi - (mm : Int)⟩ := by rw [hLg mm (by omega), hrp]; unfold opBits; rw [List.getElem?_map, List.getElem?_range (by omega)]; rfl
          obtain ⟨pos, hpos⟩ : ∃ pos, pos = posN d.order L.length (w + mm) := ⟨_, rfl⟩
          have hstep := hM.op (by rw [hL]; exact hG.dist) h8 hLx (j := 0) (m := o) (c := cj) hai ho rfl (take_tk haiN) (by omega)
          rw [← hpos, take_put] at hstep
          obtain ⟨v, hv, _⟩ := get_some (R := cj) (i := o) (by omega)
          refine draw_introXS (dS4 [0, 1, 2, 3, 4, 5, 6]) ord_36_29 (by decide +kernel) ?_
          refine ck_intro (inB1 rfl (by omega) (by omega)) ?_
          refine opt_intro (show vs[0 + p.arg.toNat]? = some (.sl 6 0 0 (kb 0)) from by rw [hai, Nat.zero_add]; exact hvr) ?_
          refine CallS.mono (place_calls d sz n N vs (w + mm) m0 m1 w0 w1 lz cj c1 c2 c3 c4 c5 p L hn hLl h8 (by omega) pos hpos) ?_
          rintro _ _ ⟨rfl, rfl⟩
          refine And.intro (fun j hj => by
            simp only [List.mem_cons, List.not_mem_nil, or_false] at hj
            rcases hj with rfl | rfl | rfl | rfl | rfl | rfl | rfl <;> exact LeX.set _ (List.mem_singleton.2 rfl)) ?_
          refine ck_intro (inB1 rfl (by omega) (by omega)) ?_
          refine opt_intro (map_getI ho hv) ?_
          refine And.intro (fun j hj => by first | (cases hj; done) | exact LeX.append _ _ _ | exact LeX.refl _ _) ?_
          refine st_intro (n := p.hi - ((mm + 1 : Nat) : Int)) (show IntKind.i64.wrap (p.hi - (mm : Int) - 1) = _ from by have := hfok.2.2.2.2.2.1 p hpm; have h1 := this.2.2.1.1; have h2 := this.2.2.1.2; rw [IntKind.wrap_i64]; omega) ?_
          have eC := set_num (C := cj) (v := ((pos : Nat) : Int)) ho
          conv => whnf
          exact ⟨⟨(mm + 1, cj.set o ((pos : Nat) : Int)), by omega, hstep⟩, weak_gc [0, 1, 2, 3, 4, 5, 6, 7, 8, 9, 10, 11, 12] rfl ⟨rfl, rfl, rfl, rfl, rfl, rfl, rfl, rfl, trivial⟩ ⟨rfl, rfl, gV _ (six_rows _ _ _ _ _ _ _ _ _ _ _ _ _) _ (by decide), rfl, rfl, rfl, congrArg (fun l => some (Blk.arr tI 1 false 0 (.ts l))) eC, rfl, rfl, rfl, rfl, rfl, rfl, trivial⟩, by show T0 - (mm + 1) < T0 - mm; omega⟩
        · have c7 : ¬ p.hi - (mm : Int) ≥ p.lo := of_decide_eq_false c7
          have e : mm = T0 := by omega
          exact HQ2 _ _ ⟨rfl, _, _, _, _, cj, by rw [← e]; exact hM, by rw [← e]; rfl⟩
      rintro _ _ ⟨rfl, b0, b1, b2, b3, cj, hM, rfl⟩
      refine st_intro (n := ((ip + 1 : Nat) : Int)) (nat_in (n := ip + 1) (by omega)) ?_
      conv => whnf
      exact ⟨⟨(ip + 1, w + T0, m0, m1, w0, w1, lz, cj, c1, c2, c3, c4, c5), hip1, by show w + T0 = _; rw [hwn, hpn], hM⟩, weak_gc [0, 1, 2, 3, 4, 5, 6, 7, 8, 9, 10, 11] rfl ⟨rfl, rfl, rfl, rfl, rfl, rfl, trivial⟩ ⟨rfl, rfl, gV _ (six_rows _ _ _ _ _ _ _ _ _ _ _ _ _) _ (by decide), rfl, rfl, rfl, rfl, rfl, rfl, rfl, rfl, rfl, trivial⟩, by show f.pieces.length - (ip + 1) < f.pieces.length - ip; omega⟩
    · skip
      refine loop_then (fun e s' => e = .exit 7 ∧ ∃ (b0 b1 b2 b3 : AV) (cj : List Int), MInv d f L (w + T0) m0 m1 w0 w1 lz ([c0, cj, c2, c3, c4, c5].take N) ∧ s' = ⟨((96, b0) :: (95, b1) :: (94, b2) :: (93, b3) :: mE f ip [(13, .ptr 12 0 0 0), (16, .t (.int .i64 (p.hi - ((T0 : Nat) : Int))))]), (mH d sz n N vs (w + T0) m0 m1 w0 w1 lz c0 cj c2 c3 c4 c5 [.box [.t (.str p.lit), .t (.int .i64 p.arg), .t (.int .i64 p.hi), .t (.int .i64 p.lo)]])⟩) (fun HQ2' HQ2 => ?_) ?_
      · refine loop_on (fun s : Nat × List Int => s.1 ≤ T0 ∧ MInv d f L (w + s.1) m0 m1 w0 w1 lz ([c0, s.2, c2, c3, c4, c5].take N)) (fun s => ⟨(mE f ip [(13, .ptr 12 0 0 0), (16, .t (.int .i64 (p.hi - ((s.1 : Nat) : Int))))]), (mH d sz n N vs (w + s.1) m0 m1 w0 w1 lz c0 s.2 c2 c3 c4 c5 [.box [.t (.str p.lit), .t (.int .i64 p.arg), .t (.int .i64 p.hi), .t (.int .i64 p.lo)]])⟩)
          (fun s => T0 - s.1) (0, c1) ⟨Nat.zero_le _, hM⟩ ?_ (fun ⟨mm, cj⟩ ⟨hmm, hM⟩ => ?_)
        · exact weak_of ⟨rfl, rfl, rfl, rfl, rfl, rfl, rfl, by show AV.t (T.int .i64 p.hi) = AV.t (T.int .i64 (p.hi - ((0 : Nat) : Int))); simp, trivial⟩ rfl
        have hmm : mm ≤ T0 := hmm
        have hM : MInv d f L (w + mm) m0 m1 w0 w1 lz ([c0, cj, c2, c3, c4, c5].take N) := hM
        have hcjl := (hM.rows 1 g k cj hga hk (take_tk haiN)).1
        refine br_intro (fun c7 => ?_) (fun c7 => ?_)
        · have c7 : p.hi - (mm : Int) ≥ p.lo := of_decide_eq_true c7
          obtain ⟨o, ho⟩ : ∃ o : Nat, p.hi - (mm : Int) = o := ⟨(p.hi - mm).toNat, by omega⟩
          have hLx : L[w + mm]? = some ⟨0, p.arg, p.hi - (mm : Int)⟩ := by rw [hLg mm (by omega), hrp]; unfold opBits; rw [List.getElem?_map, List.getElem?_range (by omega)]; rfl
          obtain ⟨pos, hpos⟩ : ∃ pos, pos = posN d.order L.length (w + mm) := ⟨_, rfl⟩
          have hstep := hM.op (by rw [hL]; exact hG.dist) h8 hLx (j := 1) (m := o) (c := cj) hai ho rfl (take_tk haiN) (by omega)
          rw [← hpos, take_put] at hstep
          obtain ⟨v, hv, _⟩ := get_some (R := cj) (i := o) (by omega)
          refine draw_introXS (dS4 [0, 1, 2, 3, 4, 5, 6]) ord_36_29 (by decide +kernel) ?_
          refine ck_intro (inB1 rfl (by omega) (by omega)) ?_
          refine opt_intro (show vs[0 + p.arg.toNat]? = some (.sl 7 0 0 (kb 1)) from by rw [hai, Nat.zero_add]; exact hvr) ?_
          refine CallS.mono (place_calls d sz n N vs (w + mm) m0 m1 w0 w1 lz c0 cj c2 c3 c4 c5 p L hn hLl h8 (by omega) pos hpos) ?_
          rintro _ _ ⟨rfl, rfl⟩
          refine And.intro (fun j hj => by
            simp only [List.mem_cons, List.not_mem_nil, or_false] at hj
            rcases hj with rfl | rfl | rfl | rfl | rfl | rfl | rfl <;> exact LeX.set _ (List.mem_singleton.2 rfl)) ?_
          refine ck_intro (inB1 rfl (by omega) (by omega)) ?_
          refine opt_intro (map_getI ho hv) ?_
          refine And.intro (fun j hj => by first | (cases hj; done) | exact LeX.append _ _ _ | exact LeX.refl _ _) ?_
          refine st_intro (n := p.hi - ((mm + 1 : Nat) : Int)) (show IntKind.i64.wrap (p.hi - (mm : Int) - 1) = _ from by have := hfok.2.2.2.2.2.1 p hpm; have h1 := this.2.2.1.1; have h2 := this.2.2.1.2; rw [IntKind.wrap_i64]; omega) ?_
          have eC := set_num (C := cj) (v := ((pos : Nat) : Int)) ho
          conv => whnf
          exact ⟨⟨(mm + 1, cj.set o ((pos : Nat) : Int)), by omega, hstep⟩, weak_gc [0, 1, 2, 3, 4, 5, 6, 7, 8, 9, 10, 11, 12] rfl ⟨rfl, rfl, rfl, rfl, rfl, rfl, rfl, rfl, trivial⟩ ⟨rfl, rfl, gV _ (six_rows _ _ _ _ _ _ _ _ _ _ _ _ _) _ (by decide), rfl, rfl, rfl, rfl, congrArg (fun l => some (Blk.arr tI 1 false 0 (.ts l))) eC, rfl, rfl, rfl, rfl, rfl, trivial⟩, by show T0 - (mm + 1) < T0 - mm; omega⟩
        · have c7 : ¬ p.hi - (mm : Int) ≥ p.lo := of_decide_eq_false c7
          have e : mm = T0 := by omega
          exact HQ2 _ _ ⟨rfl, _, _, _, _, cj, by rw [← e]; exact hM, by rw [← e]; rfl⟩
      rintro _ _ ⟨rfl, b0, b1, b2, b3, cj, hM, rfl⟩
      refine st_intro (n := ((ip + 1 : Nat) : Int)) (nat_in (n := ip + 1) (by omega)) ?_
      conv => whnf
      exact ⟨⟨(ip + 1, w + T0, m0, m1, w0, w1, lz, c0, cj, c2, c3, c4, c5), hip1, by show w + T0 = _; rw [hwn, hpn], hM⟩, weak_gc [0, 1, 2, 3, 4, 5, 6, 7, 8, 9, 10, 11] rfl ⟨rfl, rfl, rfl, rfl, rfl, rfl, trivial⟩ ⟨rfl, rfl, gV _ (six_rows _ _ _ _ _ _ _ _ _ _ _ _ _) _ (by decide), rfl, rfl, rfl, rfl, rfl, rfl, rfl, rfl, rfl, trivial⟩, by show f.pieces.length - (ip + 1) < f.pieces.length - ip; omega⟩
    · skip
      refine loop_then (fun e s' => e = .exit 7 ∧ ∃ (b0 b1 b2 b3 : AV) (cj : List Int), MInv d f L (w + T0) m0 m1 w0 w1 lz ([c0, c1, cj, c3, c4, c5].take N) ∧ s' = ⟨((96, b0) :: (95, b1) :: (94, b2) :: (93, b3) :: mE f ip [(13, .ptr 12 0 0 0), (16, .t (.int .i64 (p.hi - ((T0 : Nat) : Int))))]), (mH d sz n N vs (w + T0) m0 m1 w0 w1 lz c0 c1 cj c3 c4 c5 [.box [.t (.str p.lit), .t (.int .i64 p.arg), .t (.int .i64 p.hi), .t (.int .i64 p.lo)]])⟩) (fun HQ2' HQ2 => ?_) ?_
      · refine loop_on (fun s : Nat × List Int => s.1 ≤ T0 ∧ MInv d f L (w + s.1) m0 m1 w0 w1 lz ([c0, c1, s.2, c3, c4, c5].take N)) (fun s => ⟨(mE f ip [(13, .ptr 12 0 0 0), (16, .t (.int .i64 (p.hi - ((s.1 : Nat) : Int))))]), (mH d sz n N vs (w + s.1) m0 m1 w0 w1 lz c0 c1 s.2 c3 c4 c5 [.box [.t (.str p.lit), .t (.int .i64 p.arg), .t (.int .i64 p.hi), .t (.int .i64 p.lo)]])⟩)
          (fun s => T0 - s.1) (0, c2) ⟨Nat.zero_le _, hM⟩ ?_ (fun ⟨mm, cj⟩ ⟨hmm, hM⟩ => ?_)
        · exact weak_of ⟨rfl, rfl, rfl, rfl, rfl, rfl, rfl, by show AV.t (T.int .i64 p.hi) = AV.t (T.int .i64 (p.hi - ((0 : Nat) : Int))); simp, trivial⟩ rfl
        have hmm : mm ≤ T0 := hmm
        have hM : MInv d f L (w + mm) m0 m1 w0 w1 lz ([c0, c1, cj, c3, c4, c5].take N) := hM
        have hcjl := (hM.rows 2 g k cj hga hk (take_tk haiN)).1
        refine br_intro (fun c7 => ?_) (fun c7 => ?_)
        · have c7 : p.hi - (mm : Int) ≥ p.lo := of_decide_eq_true c7
          obtain ⟨o, ho⟩ : ∃ o : Nat, p.hi - (mm : Int) = o := ⟨(p.hi - mm).toNat, by omega⟩
          have hLx : L[w + mm]? = some ⟨0, p.arg, p.hi - (mm : Int)⟩ := by rw [hLg mm (by omega), hrp]; unfold opBits; rw [List.getElem?_map, List.getElem?_range (by omega)]; rfl
          obtain ⟨pos, hpos⟩ : ∃ pos, pos = posN d.order L.length (w + mm) := ⟨_, rfl⟩
          have hstep := hM.op (by rw [hL]; exact hG.dist) h8 hLx (j := 2) (m := o) (c := cj) hai ho rfl (take_tk haiN) (by omega)
          rw [← hpos, take_put] at hstep
          obtain ⟨v, hv, _⟩ := get_some (R := cj) (i := o) (by omega)
          refine draw_introXS (dS4 [0, 1, 2, 3, 4, 5, 6]) ord_36_29 (by decide +kernel) ?_
          refine ck_intro (inB1 rfl (by omega) (by omega)) ?_
          refine opt_intro (show vs[0 + p.arg.toNat]? = some (.sl 8 0 0 (kb 2)) from by rw [hai, Nat.zero_add]; exact hvr) ?_
          refine CallS.mono (place_calls d sz n N vs (w + mm) m0 m1 w0 w1 lz c0 c1 cj c3 c4 c5 p L hn hLl h8 (by omega) pos hpos) ?_
          rintro _ _ ⟨rfl, rfl⟩
          refine And.intro (fun j hj => by
            simp only [List.mem_cons, List.not_mem_nil, or_false] at hj
            rcases hj with rfl | rfl | rfl | rfl | rfl | rfl | rfl <;> exact LeX.set _ (List.mem_singleton.2 rfl)) ?_
          refine ck_intro (inB1 rfl (by omega) (by omega)) ?_
          refine opt_intro (map_getI ho hv) ?_
          refine And.intro (fun j hj => by first | (cases hj; done) | exact LeX.append _ _ _ | exact LeX.refl _ _) ?_
          refine st_intro (n := p.hi - ((mm + 1 : Nat) : Int)) (show IntKind.i64.wrap (p.hi - (mm : Int) - 1) = _ from by have := hfok.2.2.2.2.2.1 p hpm; have h1 := this.2.2.1.1; have h2 := this.2.2.1.2; rw [IntKind.wrap_i64]; omega) ?_
          have eC := set_num (C := cj) (v := ((pos : Nat) : Int)) ho
          conv => whnf
          exact ⟨⟨(mm + 1, cj.set o ((pos : Nat) : Int)), by omega, hstep⟩, weak_gc [0, 1, 2, 3, 4, 5, 6, 7, 8, 9, 10, 11, 12] rfl ⟨rfl, rfl, rfl, rfl, rfl, rfl, rfl, rfl, trivial⟩ ⟨rfl, rfl, gV _ (six_rows _ _ _ _ _ _ _ _ _ _ _ _ _) _ (by decide), rfl, rfl, rfl, rfl, rfl, congrArg (fun l => some (Blk.arr tI 1 false 0 (.ts l))) eC, rfl, rfl, rfl, rfl, trivial⟩, by show T0 - (mm + 1) < T0 - mm; omega⟩
        · have c7 : ¬ p.hi - (mm : Int) ≥ p.lo := of_decide_eq_false c7
          have e : mm = T0 := by omega
          exact HQ2 _ _ ⟨rfl, _, _, _, _, cj, by rw [← e]; exact hM, by rw [← e]; rfl⟩
      rintro _ _ ⟨rfl, b0, b1, b2, b3, cj, hM, rfl⟩
      refine st_intro (n := ((ip + 1 : Nat) : Int)) (nat_in (n := ip + 1) (by omega)) ?_
      conv => whnf
      exact ⟨⟨(ip + 1, w + T0, m0, m1, w0, w1, lz, c0, c1, cj, c3, c4, c5), hip1, by show w + T0 = _; rw [hwn, hpn], hM⟩, weak_gc [0, 1, 2, 3, 4, 5, 6, 7, 8, 9, 10, 11] rfl ⟨rfl, rfl, rfl, rfl, rfl, rfl, trivial⟩ ⟨rfl, rfl, gV _ (six_rows _ _ _ _ _ _ _ _ _ _ _ _ _) _ (by decide), rfl, rfl, rfl, rfl, rfl, rfl, rfl, rfl, rfl, trivial⟩, by show f.pieces.length - (ip + 1) < f.pieces.length - ip; omega⟩
    · skip
      refine loop_then (fun e s' => e = .exit 7 ∧ ∃ (b0 b1 b2 b3 : AV) (cj : List Int), MInv d f L (w + T0) m0 m1 w0 w1 lz ([c0, c1, c2, cj, c4, c5].take N) ∧ s' = ⟨((96, b0) :: (95, b1) :: (94, b2) :: (93, b3) :: mE f ip [(13, .ptr 12 0 0 0), (16, .t (.int .i64 (p.hi - ((T0 : Nat) : Int))))]), (mH d sz n N vs (w + T0) m0 m1 w0 w1 lz c0 c1 c2 cj c4 c5 [.box [.t (.str p.lit), .t (.int .i64 p.arg), .t (.int .i64 p.hi), .t (.int .i64 p.lo)]])⟩) (fun HQ2' HQ2 => ?_) ?_
      · refine loop_on (fun s : Nat × List Int => s.1 ≤ T0 ∧ MInv d f L (w + s.1) m0 m1 w0 w1 lz ([c0, c1, c2, s.2, c4, c5].take N)) (fun s => ⟨(mE f ip [(13, .ptr 12 0 0 0), (16, .t (.int .i64 (p.hi - ((s.1 : Nat) : Int))))]), (mH d sz n N vs (w + s.1) m0 m1 w0 w1 lz c0 c1 c2 s.2 c4 c5 [.box [.t (.str p.lit), .t (.int .i64 p.arg), .t (.int .i64 p.hi), .t (.int .i64 p.lo)]])⟩)
          (fun s => T0 - s.1) (0, c3) ⟨Nat.zero_le _, hM⟩ ?_ (fun ⟨mm, cj⟩ ⟨hmm, hM⟩ => ?_)
        · exact weak_of ⟨rfl, rfl, rfl, rfl, rfl, rfl, rfl, by show AV.t (T.int .i64 p.hi) = AV.t (T.int .i64 (p.hi - ((0 : Nat) : Int))); simp, trivial⟩ rfl
        have hmm : mm ≤ T0 := hmm
        have hM : MInv d f L (w + mm) m0 m1 w0 w1 lz ([c0, c1, c2, cj, c4, c5].take N) := hM
        have hcjl := (hM.rows 3 g k cj hga hk (take_tk haiN)).1
        refine br_intro (fun c7 => ?_) (fun c7 => ?_)
        · have c7 : p.hi - (mm : Int) ≥ p.lo := of_decide_eq_true c7
          obtain ⟨o, ho⟩ : ∃ o : Nat, p.hi - (mm : Int) = o := ⟨(p.hi - mm).toNat, by omega⟩
          have hLx : L[w + mm]? = some ⟨0, p.arg, p.hi - (mm : Int)⟩ := by rw [hLg mm (by omega), hrp]; unfold opBits; rw [List.getElem?_map, List.getElem?_range (by omega)]; rfl
          obtain ⟨pos, hpos⟩ : ∃ pos, pos = posN d.order L.length (w + mm) := ⟨_, rfl⟩
          have hstep := hM.op (by rw [hL]; exact hG.dist) h8 hLx (j := 3) (m := o) (c := cj) hai ho rfl (take_tk haiN) (by omega)
          rw [← hpos, take_put] at hstep
          obtain ⟨v, hv, _⟩ := get_some (R := cj) (i := o) (by omega)
          refine draw_introXS (dS4 [0, 1, 2, 3, 4, 5, 6]) ord_36_29 (by decide +kernel) ?_
          refine ck_intro (inB1 rfl (by omega) (by omega)) ?_
          refine opt_intro (show vs[0 + p.arg.toNat]? = some (.sl 9 0 0 (kb 3)) from by rw [hai, Nat.zero_add]; exact hvr) ?_
          refine CallS.mono (place_calls d sz n N vs (w + mm) m0 m1 w0 w1 lz c0 c1 c2 cj c4 c5 p L hn hLl h8 (by omega) pos hpos) ?_
          rintro _ _ ⟨rfl, rfl⟩
          refine And.intro (fun j hj => by
            simp only [List.mem_cons, List.not_mem_nil, or_false] at hj
            rcases hj with rfl | rfl | rfl | rfl | rfl | rfl | rfl <;> exact LeX.set _ (List.mem_singleton.2 rfl)) ?_
          refine ck_intro (inB1 rfl (by omega) (by omega)) ?_
          refine opt_intro (map_getI ho hv) ?_
          refine And.intro (fun j hj => by first | (cases hj; done) | exact LeX.append _ _ _ | exact LeX.refl _ _) ?_
          refine st_intro (n := p.hi - ((mm + 1 : Nat) : Int)) (show IntKind.i64.wrap (p.hi - (mm : Int) - 1) = _ from by have := hfok.2.2.2.2.2.1 p hpm; have h1 := this.2.2.1.1; have h2 := this.2.2.1.2; rw [IntKind.wrap_i64]; omega) ?_
          have eC := set_num (C := cj) (v := ((pos : Nat) : Int)) ho
          conv => whnf
          exact ⟨⟨(mm + 1, cj.set o ((pos : Nat) : Int)), by omega, hstep⟩, weak_gc [0, 1, 2, 3, 4, 5, 6, 7, 8, 9, 10, 11, 12] rfl ⟨rfl, rfl, rfl, rfl, rfl, rfl, rfl, rfl, trivial⟩ ⟨rfl, rfl, gV _ (six_rows _ _ _ _ _ _ _ _ _ _ _ _ _) _ (by decide), rfl, rfl, rfl, rfl, rfl, rfl, congrArg (fun l => some (Blk.arr tI 1 false 0 (.ts l))) eC, rfl, rfl, rfl, trivial⟩, by show T0 - (mm + 1) < T0 - mm; omega⟩
        · have c7 : ¬ p.hi - (mm : Int) ≥ p.lo := of_decide_eq_false c7
          have e : mm = T0 := by omega
          exact HQ2 _ _ ⟨rfl, _, _, _, _, cj, by rw [← e]; exact hM, by rw [← e]; rfl⟩
      rintro _ _ ⟨rfl, b0, b1, b2, b3, cj, hM, rfl⟩
      refine st_intro (n := ((ip + 1 : Nat) : Int)) (nat_in (n := ip + 1) (by omega)) ?_
      conv => whnf
      exact ⟨⟨(ip + 1, w + T0, m0, m1, w0, w1, lz, c0, c1, c2, cj, c4, c5), hip1, by show w + T0 = _; rw [hwn, hpn], hM⟩, weak_gc [0, 1, 2, 3, 4, 5, 6, 7, 8, 9, 10, 11] rfl ⟨rfl, rfl, rfl, rfl, rfl, rfl, trivial⟩ ⟨rfl, rfl, gV _ (six_rows _ _ _ _ _ _ _ _ _ _ _ _ _) _ (by decide), rfl, rfl, rfl, rfl, rfl, rfl, rfl, rfl, rfl, trivial⟩, by show f.pieces.length - (ip + 1) < f.pieces.length - ip; omega⟩
    · skip
      refine loop_then (fun e s' => e = .exit 7 ∧ ∃ (b0 b1 b2 b3 : AV) (cj : List Int), MInv d f L (w + T0) m0 m1 w0 w1 lz ([c0, c1, c2, c3, cj, c5].take N) ∧ s' = ⟨((96, b0) :: (95, b1) :: (94, b2) :: (93, b3) :: mE f ip [(13, .ptr 12 0 0 0), (16, .t (.int .i64 (p.hi - ((T0 : Nat) : Int))))]), (mH d sz n N vs (w + T0) m0 m1 w0 w1 lz c0 c1 c2 c3 cj c5 [.box [.t (.str p.lit), .t (.int .i64 p.arg), .t (.int .i64 p.hi), .t (.int .i64 p.lo)]])⟩) (fun HQ2' HQ2 => ?_) ?_
      · refine loop_on (fun s : Nat × List Int => s.1 ≤ T0 ∧ MInv d f L (w + s.1) m0 m1 w0 w1 lz ([c0, c1, c2, c3, s.2, c5].take N)) (fun s => ⟨(mE f ip [(13, .ptr 12 0 0 0), (16, .t (.int .i64 (p.hi - ((s.1 : Nat) : Int))))]), (mH d sz n N vs (w + s.1) m0 m1 w0 w1 lz c0 c1 c2 c3 s.2 c5 [.box [.t (.str p.lit), .t (.int .i64 p.arg), .t (.int .i64 p.hi), .t (.int .i64 p.lo)]])⟩)
          (fun s => T0 - s.1) (0, c4) ⟨Nat.zero_le _, hM⟩ ?_ (fun ⟨mm, cj⟩ ⟨hmm, hM⟩ => ?_)
        · exact weak_of ⟨rfl, rfl, rfl, rfl, rfl, rfl, rfl, by show AV.t (T.int .i64 p.hi) = AV.t (T.int .i64 (p.hi - ((0 : Nat) : Int))); simp, trivial⟩ rfl
        have hmm : mm ≤ T0 := hmm
        have hM : MInv d f L (w + mm) m0 m1 w0 w1 lz ([c0, c1, c2, c3, cj, c5].take N) := hM
        have hcjl := (hM.rows 4 g k cj hga hk (take_tk haiN)).1
        refine br_intro (fun c7 => ?_) (fun c7 => ?_)
        · have c7 : p.hi - (mm : Int) ≥ p.lo := of_decide_eq_true c7
          obtain ⟨o, ho⟩ : ∃ o : Nat, p.hi - (mm : Int) = o := ⟨(p.hi - mm).toNat, by omega⟩
          have hLx : L[w + mm]? = some ⟨0, p.arg, p.hi - (mm : Int)⟩ := by rw [hLg mm (by omega), hrp]; unfold opBits; rw [List.getElem?_map, List.getElem?_range (by omega)]; rfl
          obtain ⟨pos, hpos⟩ : ∃ pos, pos = posN d.order L.length (w + mm) := ⟨_, rfl⟩
          have hstep := hM.op (by rw [hL]; exact hG.dist) h8 hLx (j := 4) (m := o) (c := cj) hai ho rfl (take_tk haiN) (by omega)
          rw [← hpos, take_put] at hstep
          obtain ⟨v, hv, _⟩ := get_some (R := cj) (i := o) (by omega)
          refine draw_introXS (dS4 [0, 1, 2, 3, 4, 5, 6]) ord_36_29 (by decide +kernel) ?_
          refine ck_intro (inB1 rfl (by omega) (by omega)) ?_
          refine opt_intro (show vs[0 + p.arg.toNat]? = some (.sl 10 0 0 (kb 4)) from by rw [hai, Nat.zero_add]; exact hvr) ?_
          refine CallS.mono (place_calls d sz n N vs (w + mm) m0 m1 w0 w1 lz c0 c1 c2 c3 cj c5 p L hn hLl h8 (by omega) pos hpos) ?_
          rintro _ _ ⟨rfl, rfl⟩
          refine And.intro (fun j hj => by
            simp only [List.mem_cons, List.not_mem_nil, or_false] at hj
            rcases hj with rfl | rfl | rfl | rfl | rfl | rfl | rfl <;> exact LeX.set _ (List.mem_singleton.2 rfl)) ?_
          refine ck_intro (inB1 rfl (by omega) (by omega)) ?_
          refine opt_intro (map_getI ho hv) ?_
          refine And.intro (fun j hj => by first | (cases hj; done) | exact LeX.append _ _ _ | exact LeX.refl _ _) ?_
          refine st_intro (n := p.hi - ((mm + 1 : Nat) : Int)) (show IntKind.i64.wrap (p.hi - (mm : Int) - 1) = _ from by have := hfok.2.2.2.2.2.1 p hpm; have h1 := this.2.2.1.1; have h2 := this.2.2.1.2; rw [IntKind.wrap_i64]; omega) ?_
          have eC := set_num (C := cj) (v := ((pos : Nat) : Int)) ho
          conv => whnf
          exact ⟨⟨(mm + 1, cj.set o ((pos : Nat) : Int)), by omega, hstep⟩, weak_gc [0, 1, 2, 3, 4, 5, 6, 7, 8, 9, 10, 11, 12] rfl ⟨rfl, rfl, rfl, rfl, rfl, rfl, rfl, rfl, trivial⟩ ⟨rfl, rfl, gV _ (six_rows _ _ _ _ _ _ _ _ _ _ _ _ _) _ (by decide), rfl, rfl, rfl, rfl, rfl, rfl, rfl, congrArg (fun l => some (Blk.arr tI 1 false 0 (.ts l))) eC, rfl, rfl, trivial⟩, by show T0 - (mm + 1) < T0 - mm; omega⟩
        · have c7 : ¬ p.hi - (mm : Int) ≥ p.lo := of_decide_eq_false c7
          have e : mm = T0 := by omega
          exact HQ2 _ _ ⟨rfl, _, _, _, _, cj, by rw [← e]; exact hM, by rw [← e]; rfl⟩
      rintro _ _ ⟨rfl, b0, b1, b2, b3, cj, hM, rfl⟩
      refine st_intro (n := ((ip + 1 : Nat) : Int)) (nat_in (n := ip + 1) (by omega)) ?_
      conv => whnf
      exact ⟨⟨(ip + 1, w + T0, m0, m1, w0, w1, lz, c0, c1, c2, c3, cj, c5), hip1, by show w + T0 = _; rw [hwn, hpn], hM⟩, weak_gc [0, 1, 2, 3, 4, 5, 6, 7, 8, 9, 10, 11] rfl ⟨rfl, rfl, rfl, rfl, rfl, rfl, trivial⟩ ⟨rfl, rfl, gV _ (six_rows _ _ _ _ _ _ _ _ _ _ _ _ _) _ (by decide), rfl, rfl, rfl, rfl, rfl, rfl, rfl, rfl, rfl, trivial⟩, by show f.pieces.length - (ip + 1) < f.pieces.length - ip; omega⟩
    · skip
      refine loop_then (fun e s' => e = .exit 7 ∧ ∃ (b0 b1 b2 b3 : AV) (cj : List Int), MInv d f L (w + T0) m0 m1 w0 w1 lz ([c0, c1, c2, c3, c4, cj].take N) ∧ s' = ⟨((96, b0) :: (95, b1) :: (94, b2) :: (93, b3) :: mE f ip [(13, .ptr 12 0 0 0), (16, .t (.int .i64 (p.hi - ((T0 : Nat) : Int))))]), (mH d sz n N vs (w + T0) m0 m1 w0 w1 lz c0 c1 c2 c3 c4 cj [.box [.t (.str p.lit), .t (.int .i64 p.arg), .t (.int .i64 p.hi), .t (.int .i64 p.lo)]])⟩) (fun HQ2' HQ2 => ?_) ?_
      · refine loop_on (fun s : Nat × List Int => s.1 ≤ T0 ∧ MInv d f L (w + s.1) m0 m1 w0 w1 lz ([c0, c1, c2, c3, c4, s.2].take N)) (fun s => ⟨(mE f ip [(13, .ptr 12 0 0 0), (16, .t (.int .i64 (p.hi - ((s.1 : Nat) : Int))))]), (mH d sz n N vs (w + s.1) m0 m1 w0 w1 lz c0 c1 c2 c3 c4 s.2 [.box [.t (.str p.lit), .t (.int .i64 p.arg), .t (.int .i64 p.hi), .t (.int .i64 p.lo)]])⟩)
          (fun s => T0 - s.1) (0, c5) ⟨Nat.zero_le _, hM⟩ ?_ (fun ⟨mm, cj⟩ ⟨hmm, hM⟩ => ?_)
        · exact weak_of ⟨rfl, rfl, rfl, rfl, rfl, rfl, rfl, by show AV.t (T.int .i64 p.hi) = AV.t (T.int .i64 (p.hi - ((0 : Nat) : Int))); simp, trivial⟩ rfl
        have hmm : mm ≤ T0 := hmm
        have hM : MInv d f L (w + mm) m0 m1 w0 w1 lz ([c0, c1, c2, c3, c4, cj].take N) := hM
        have hcjl := (hM.rows 5 g k cj hga hk (take_tk haiN)).1
        refine br_intro (fun c7 => ?_) (fun c7 => ?_)
        · have c7 : p.hi - (mm : Int) ≥ p.lo := of_decide_eq_true c7
          obtain ⟨o, ho⟩ : ∃ o : Nat, p.hi - (mm : Int) = o := ⟨(p.hi - mm).toNat, by omega⟩
          have hLx : L[w + mm]? = some ⟨0, p.arg, p.hi - (mm : Int)⟩ := by rw [hLg mm (by omega), hrp]; unfold opBits; rw [List.getElem?_map, List.getElem?_range (by omega)]; rfl
          obtain ⟨pos, hpos⟩ : ∃ pos, pos = posN d.order L.length (w + mm) := ⟨_, rfl⟩
          have hstep := hM.op (by rw [hL]; exact hG.dist) h8 hLx (j := 5) (m := o) (c := cj) hai ho rfl (take_tk haiN) (by omega)
          rw [← hpos, take_put] at hstep
          obtain ⟨v, hv, _⟩ := get_some (R := cj) (i := o) (by omega)
          refine draw_introXS (dS4 [0, 1, 2, 3, 4, 5, 6]) ord_36_29 (by decide +kernel) ?_
          refine ck_intro (inB1 rfl (by omega) (by omega)) ?_
          refine opt_intro (show vs[0 + p.arg.toNat]? = some (.sl 11 0 0 (kb 5)) from by rw [hai, Nat.zero_add]; exact hvr) ?_
          refine CallS.mono (place_calls d sz n N vs (w + mm) m0 m1 w0 w1 lz c0 c1 c2 c3 c4 cj p L hn hLl h8 (by omega) pos hpos) ?_
          rintro _ _ ⟨rfl, rfl⟩
          refine And.intro (fun j hj => by
            simp only [List.mem_cons, List.not_mem_nil, or_false] at hj
            rcases hj with rfl | rfl | rfl | rfl | rfl | rfl | rfl <;> exact LeX.set _ (List.mem_singleton.2 rfl)) ?_
          refine ck_intro (inB1 rfl (by omega) (by omega)) ?_
          refine opt_intro (map_getI ho hv) ?_
          refine And.intro (fun j hj => by first | (cases hj; done) | exact LeX.append _ _ _ | exact LeX.refl _ _) ?_
          refine st_intro (n := p.hi - ((mm + 1 : Nat) : Int)) (show IntKind.i64.wrap (p.hi - (mm : Int) - 1) = _ from by have := hfok.2.2.2.2.2.1 p hpm; have h1 := this.2.2.1.1; have h2 := this.2.2.1.2; rw [IntKind.wrap_i64]; omega) ?_
          have eC := set_num (C := cj) (v := ((pos : Nat) : Int)) ho
          conv => whnf
          exact ⟨⟨(mm + 1, cj.set o ((pos : Nat) : Int)), by omega, hstep⟩, weak_gc [0, 1, 2, 3, 4, 5, 6, 7, 8, 9, 10, 11, 12] rfl ⟨rfl, rfl, rfl, rfl, rfl, rfl, rfl, rfl, trivial⟩ ⟨rfl, rfl, gV _ (six_rows _ _ _ _ _ _ _ _ _ _ _ _ _) _ (by decide), rfl, rfl, rfl, rfl, rfl, rfl, rfl, rfl, congrArg (fun l => some (Blk.arr tI 1 false 0 (.ts l))) eC, rfl, trivial⟩, by show T0 - (mm + 1) < T0 - mm; omega⟩
        · have c7 : ¬ p.hi - (mm : Int) ≥ p.lo := of_decide_eq_false c7
          have e : mm = T0 := by omega
          exact HQ2 _ _ ⟨rfl, _, _, _, _, cj, by rw [← e]; exact hM, by rw [← e]; rfl⟩
      rintro _ _ ⟨rfl, b0, b1, b2, b3, cj, hM, rfl⟩
      refine st_intro (n := ((ip + 1 : Nat) : Int)) (nat_in (n := ip + 1) (by omega)) ?_
      conv => whnf
      exact ⟨⟨(ip + 1, w + T0, m0, m1, w0, w1, lz, c0, c1, c2, c3, c4, cj), hip1, by show w + T0 = _; rw [hwn, hpn], hM⟩, weak_gc [0, 1, 2, 3, 4, 5, 6, 7, 8, 9, 10, 11] rfl ⟨rfl, rfl, rfl, rfl, rfl, rfl, trivial⟩ ⟨rfl, rfl, gV _ (six_rows _ _ _ _ _ _ _ _ _ _ _ _ _) _ (by decide), rfl, rfl, rfl, rfl, rfl, rfl, rfl, rfl, rfl, trivial⟩, by show f.pieces.length - (ip + 1) < f.pieces.length - ip; omega⟩

end Go.Proofs.YtnjmeadmkbkikaaGreatDoor
