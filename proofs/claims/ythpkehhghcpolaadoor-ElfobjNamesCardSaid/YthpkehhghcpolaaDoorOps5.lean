/-
  Slice literals, made slices, conversions, len, append, min, max.
-/
import Derived.Test.YthpkehhghcpolaaDoorOps4
namespace Go.Proofs.YthpkehhghcpolaaDoor
open Go.RowKit
set_option linter.unusedVariables false
set_option linter.unusedSimpArgs false

section
variable {P : Program} {w : World}

theorem mkElem_cells {s : Nat} {cs : List T} (hl : cs.length = s) (h1 : cs.all T.one = true) (hs : 1 ≤ s) : (mkElem s cs).cells = cs := by
  unfold mkElem
  split
  · rename_i c
    simp at h1
    exact T.cells_one h1
  · rfl

theorem RA.cells0 {c H x v} (h : RA w c H x v) (hj : x ≠ .junk) (ht : ∀ l, x ≠ .tup l) : x.cells.length = v.cells.toList.length ∧
    ∀ (i : Nat) y u, x.cells[i]? = some y → v.cells.toList[i]? = some u → RA w c H y u := by
  have single : ∀ {x : AV} {v : Value}, RA w c H x v → x.cells = [x] → v.cells = #[v] → x.cells.length = v.cells.toList.length ∧
      ∀ (i : Nat) y u, x.cells[i]? = some y → v.cells.toList[i]? = some u → RA w c H y u := by
    intro x v h hx hv
    rw [hx, hv]
    refine ⟨rfl, fun i y u hi hu => ?_⟩
    cases i with
    | zero => simp at hi hu; subst hi hu; exact h
    | succ i => simp at hi
  cases h with
  | agg xs us hl _ hrr => exact ⟨hl, fun i y u hi hu => hrr i y u hi (by rw [← Array.getElem?_toList]; exact hu)⟩
  | t x v hx =>
    cases hx with
    | agg xs us hl _ hrr =>
      refine ⟨by simp only [AV.cells, List.length_map]; exact hl, fun i y u hi hu => ?_⟩
      simp only [AV.cells, List.getElem?_map, Option.map_eq_some_iff] at hi
      obtain ⟨z, hz, rfl⟩ := hi
      exact .t _ _ (hrr i z u hz (by rw [← Array.getElem?_toList]; exact hu))
    | bool => exact single (.t _ _ (.bool _)) rfl rfl
    | int => exact single (.t _ _ (.int _ _)) rfl rfl
    | str => exact single (.t _ _ (.str _)) rfl rfl
    | nilp => exact single (.t _ _ .nilp) rfl rfl
    | nils => exact single (.t _ _ .nils) rfl rfl
    | nilf => exact single (.t _ _ .nilf) rfl rfl
    | nili => exact single (.t _ _ .nili) rfl rfl
    | iptr cells b off vals h1 h2 h3 => exact single (.t _ _ (.iptr cells b off vals h1 h2 h3)) rfl rfl
    | vec s l b off cap sp vals h1 h2 h6 h3 h4 h5 => exact single (.t _ _ (.vec s l b off cap sp vals h1 h2 h6 h3 h4 h5)) rfl rfl
    | fn f a b x y h1 h2 h3 h4 => exact single (.t _ _ (.fn f a b x y h1 h2 h3 h4)) rfl rfl
    | ifc t x v h1 => exact single (.t _ _ (.ifc t x v h1)) rfl rfl
  | junk v => exact (hj rfl).elim
  | tup cs => exact (ht cs rfl).elim
  | fn f a b x y h1 h2 h3 h4 => exact single (.fn f a b x y h1 h2 h3 h4) rfl rfl
  | ifc t x v h1 => exact single (.ifc t x v h1) rfl rfl
  | ptr b g i o v blk hb hm hv => obtain ⟨a, rfl⟩ := hv; exact single (.ptr b g i o _ blk hb hm) rfl rfl
  | sl b g i m v blk hb hm hv => obtain ⟨a, p, q, rfl⟩ := hv; exact single (.sl b g i m _ blk hb hm) rfl rfl
  | emp ad => exact single (.emp ad) rfl rfl

theorem RParts.ev {c H c' H' w'} (ev : Ev w c H w' c' H') {p : List (Nat × AV)} {v : List (Nat × Value)} (h : RParts w c H p v) : RParts w' c' H' p v := by
  induction h with
  | nil => exact .nil
  | cons k x v r s h t ih => exact .cons k x v r s (h.ev ev) ih

theorem AV.cells_one {x : AV} (h : x.one = true) : x.cells = [x] := by
  cases x with
  | t x => rw [T.cells_t, T.cells_one h]; rfl
  | agg => simp [AV.one] at h
  | tup => simp [AV.one] at h
  | junk => simp [AV.one] at h
  | own => simp [AV.one] at h
  | _ => rfl

theorem mkElemA_cells {s : Nat} {cs : List AV} (h1 : cs.all AV.one = true) : (mkElemA s cs).cells = cs := by
  unfold mkElemA
  split
  · rename_i c
    simp at h1
    exact AV.cells_one h1
  · split
    · rename_i l hl
      rw [toTs_spec hl]
      rfl
    · rfl

theorem seqOf_get (l : List AV) (i : Nat) : (seqOf l).get i = l[i]? := by
  unfold seqOf
  split
  · rename_i l' hl
    rw [toTs_spec hl]
    simp [Sq.get]
  · rfl

theorem seqOf_length (l : List AV) : (seqOf l).length = l.length := by
  unfold seqOf
  split
  · rename_i l' hl
    rw [toTs_spec hl]
    simp [Sq.length]
  · rfl

/-- The elements of a slice literal: the array that the model fills. -/
theorem elems_ok {s : Nat} (hs1 : 1 ≤ s) : ∀ {parts : List (Nat × AV)} {vs : List (Nat × Value)} {c H n} {arr : Array Value} {l : List AV}, RParts w c H parts vs → elems s n parts = some l →
    (n + l.length) * s ≤ arr.size → ∃ q, Instr.fill (fun i => some (i * s, s)) arr vs = some q ∧ q.size = arr.size ∧ (∀ j, j < n * s → q[j]? = arr[j]?) ∧
      ∀ (i : Nat) x, l[i]? = some x → x.cells.length = s ∧ ∀ (j : Nat) y, x.cells[j]? = some y → ∃ v, q[(n + i) * s + j]? = some v ∧ y.one = true ∧ RA w c H y v ∧ v.oneCell' = true
  | [], vs, c, H, n, arr, l, hp, h, hfit => by
    simp [elems] at h
    subst h
    cases hp
    exact ⟨arr, rfl, rfl, fun _ _ => rfl, by simp⟩
  | (k, x) :: r, vs, c, H, n, arr, l, hp, h, hfit => by
    cases hp with | cons _ _ v _ us hx ht =>
    simp only [elems] at h
    split at h
    · rename_i l' hk hr
      cases h
      simp only [Bool.and_eq_true] at hk
      have hk0 := Nat.eq_of_beq_eq_true hk.1.1
      subst hk0
      have c1 := Nat.eq_of_beq_eq_true hk.1.2
      obtain ⟨cl, cr⟩ := hx.cells hk.2
      have hsz : v.cells.size = s := by omega
      have hfit1 : k * s + v.cells.size ≤ arr.size := by
        have : (k + 1) * s ≤ (k + (mkElemA s x.cells :: l').length) * s := Nat.mul_le_mul_right _ (by simp)
        rw [Nat.succ_mul] at this; omega
      have hfit2 : (k + 1 + l'.length) * s ≤ (put1 arr (k * s) v).size := by
        rw [put1_size, show k + 1 + l'.length = k + (l'.length + 1) by omega]
        simpa using hfit
      obtain ⟨q, q1, q2, q3, q4⟩ := elems_ok hs1 (arr := put1 arr (k * s) v) ht hr hfit2
      refine ⟨q, by rw [fill_cons (off := k * s) (size := s) rfl hsz hfit1]; exact q1, by rw [q2, put1_size], fun j hj => ?_, fun i y hi => ?_⟩
      · rw [q3 j (by rw [Nat.succ_mul]; omega), put1_get _ _ _ hfit1, if_neg (by omega)]
      · cases i with
        | zero =>
          simp at hi
          subst hi
          rw [mkElemA_cells hk.2]
          refine ⟨c1, fun j z hj => ?_⟩
          have hjs := lt_of_getElem? hj
          obtain ⟨u, hu⟩ := arr_get (a := v.cells) (i := j) (by omega)
          refine ⟨u, ?_, cr j z u hj hu⟩
          rw [Nat.add_zero, q3 (k * s + j) (by rw [Nat.succ_mul]; omega), put1_get _ _ _ hfit1, if_pos (by omega), show k * s + j - k * s = j by omega]
          exact hu
        | succ i =>
          simp at hi
          have := q4 i y hi
          rw [show k + 1 + i = k + (i + 1) by omega] at this
          exact this
    · cases h

theorem made_get (z : Array Value) (n k : Nat) (hk : k < n) (hz : 0 < z.size) : (madeCells z n)[k]? = z[k % z.size]? := by
  have : k % z.size < z.size := Nat.mod_lt _ hz
  simp [madeCells, hk, this]

theorem run_buildSlice {tab : Tab} (hT : TabOK P tab) {t : TypeId} {len : Nat} {e : TypeId} {z : TyI} {zs : List T} (hd : P.underlying t = some (.slice e)) (hz : tab e = some z) (hzs : z.zero = some zs) (c3 : len * z.size ≤ 16777216) (vs : Array (Nat × Value)) :
    ∃ arr0 : Array Value, arr0.size = len * z.size ∧ ∀ q, Instr.fill (fun i => some (i * z.size, z.size)) arr0 vs.toList = some q →
        (Instr.buildSlice t len vs).run P w = .ok (.slice (some ⟨w.heap.size, 0, none⟩) len len) (w.alloc (.cells q e)) := by
  obtain ⟨zv, r, hz', _⟩ := run_zero (w := w) hT hz hzs
  have hns : ¬ len * z.size > 16777216 := by omega
  have hsz := run_sizeOf hT hz w
  by_cases hn : len * z.size = 0
  · refine ⟨(Array.range (len * z.size)).map ((#[] : Array Value)[· % (#[] : Array Value).size]!), by simp, fun q hq => ?_⟩
    simp only [Instr.buildSlice, Sem.run_bind, run_underlying hd, Result.andThen_ok, hsz, show (2 : Nat) ^ 24 = 16777216 by decide, if_neg hns, Sem.run_pure, if_pos hn, Sem.run_ite, pure_bind]
    rw [hq]
    simp [newRow]
  · refine ⟨(Array.range (len * z.size)).map (zv.cells[· % zv.cells.size]!), by simp, fun q hq => ?_⟩
    simp only [Instr.buildSlice, Sem.run_bind, run_underlying hd, Result.andThen_ok, hsz, show (2 : Nat) ^ 24 = 16777216 by decide, if_neg hns, Sem.run_pure, if_neg hn, Sem.run_ite, r, pure_bind]
    rw [hq]
    simp [newRow]

theorem xbuildSlice_ok {tab : Tab} (hT : TabOK P tab) {t : TypeId} {len : Nat} {c H B} {parts : List (Nat × AV)} {vs : Array (Nat × Value)} {K : AV → AH → Prop} (hs : HS w c H B) (hp : RParts w c H parts vs.toList)
    (h : xbuildSlice tab t len parts H K) : MOut P (Instr.buildSlice t len vs) w c H B K := by
  unfold xbuildSlice at h
  rw [opt_iff] at h
  obtain ⟨y, hy, h⟩ := h
  have hd := (hT t y hy).d
  split at h
  · rename_i e he
    rw [he] at hd
    rw [opt_iff] at h
    obtain ⟨z, hz, h⟩ := h
    rw [opt_iff] at h
    obtain ⟨l, hel, h⟩ := h
    rw [ck_iff] at h
    obtain ⟨hc, h⟩ := h
    simp only [Bool.and_eq_true] at hc
    have c1 := Nat.eq_of_beq_eq_true hc.1.1.1
    have c2 := Nat.le_of_ble_eq_true hc.1.1.2
    have c3 := Nat.le_of_ble_eq_true hc.1.2
    obtain ⟨zs, hzs⟩ := Option.isSome_iff_exists.1 hc.2
    obtain ⟨arr0, ha0, hrun⟩ := run_buildSlice (P := P) (w := w) hT hd hz hzs c3 vs
    obtain ⟨q, q1, q2, q3, q4⟩ := elems_ok c2 (arr := arr0) hp hel (by rw [ha0, c1, Nat.zero_add]; exact Nat.le_refl _)
    have hmax : len ≤ maxLen := by
      have : len * 1 ≤ len * z.size := Nat.mul_le_mul_left _ c2
      simp [maxLen]; omega
    have hsl := seqOf_length l
    have hs2 := new_arr hs e z.size false 0 (seqOf l) q len (by rw [q2, ha0]) (by omega) hmax (fun i x hi => by rw [seqOf_get] at hi; have := q4 i x hi; rw [Nat.zero_add] at this; exact this)
    have ev2 := ev_new hs (.cells q e) (.arr e z.size false 0 (seqOf l))
    refine ⟨_, _, _, _, _, hrun q q1, ?_, hs2, ev2, below_new hs.hB _, h⟩
    refine .sl _ _ _ _ _ _ (new_at (w := w) (c := c) _).1 ⟨Nat.le_refl _, fun _ => ⟨by omega, .inr <| .inr ⟨by simp, w.heap.size, len, 0, (new_at (.arr e z.size false 0 (seqOf l))).2, rfl, ?_, Nat.le_refl _, by omega, .inr (by simp), fun _ => rfl⟩⟩⟩
    rw [rowSize_alloc, q2, ha0, Nat.zero_add]
  · exact h.elim

theorem xmakeSlice_ok {tab : Tab} (hT : TabOK P tab) {t : TypeId} {c H B a b u v} {K : AV → AH → Prop} (hs : HS w c H B) (ha : RA w c H a u) (hb : RA w c H b v)
    (h : xmakeSlice tab t a b H K) : MOut P (Instr.makeSlice t u v) w c H B K := by
  unfold xmakeSlice at h
  rw [opt_iff] at h
  obtain ⟨y, hy, h⟩ := h
  have hd := (hT t y hy).d
  split at h
  · rename_i e k1 n k2 cp he
    rw [he] at hd
    obtain rfl := ha.int
    obtain rfl := hb.int
    rw [opt_iff] at h
    obtain ⟨z, hz, h⟩ := h
    rw [opt_iff] at h
    obtain ⟨zs, hzs, h⟩ := h
    rw [ck_iff] at h
    obtain ⟨hc, h⟩ := h
    simp only [Bool.and_eq_true, decide_eq_true_eq] at hc
    obtain ⟨⟨⟨⟨⟨⟨h0, hnc⟩, hby⟩, hmx⟩, hs1⟩, hzl⟩, hz1⟩ := hc
    have hs1 := Nat.le_of_ble_eq_true hs1
    have hzl := Nat.eq_of_beq_eq_true hzl
    obtain ⟨zv, r, hz', i, hi, hiz, his, hib⟩ := run_zero (w := w) hT hz hzs
    obtain ⟨zk1, zk2⟩ := ofVs_ok (w := w) (M := c.M H) hz'
    have run := run_make (P := P) w t e i zv hd hi hiz k1 k2 n cp h0 hnc (by rw [hib, Int.mul_comm]; omega) (by omega)
    rw [his] at run
    have hzs0 : zv.cells.size = z.size := by simpa [hzl] using zk1.symm
    have hel := mkElem_cells hzl hz1 hs1
    have fin : ∀ (g m : Nat), n.toNat ≤ m → m ≤ cp.toNat → (g % 2 = 1 → m = cp.toNat) → K (.sl H.length g 0 n.toNat) (H ++ [.arr e z.size false g (.ts (List.replicate m (mkElem z.size zs)))]) → MOut P (Instr.makeSlice t (.int k1 n) (.int k2 cp)) w c H B K := by
      intro g m hm1 hm2 hm3 h
      have hs2 := new_arr hs e z.size false g (.ts (List.replicate m (mkElem z.size zs))) (madeCells zv.cells (cp.toNat * z.size)) cp.toNat (by rw [size_madeCells]) (by simp only [Sq.length, List.length_replicate]; exact ⟨hm2, hm3⟩) (by simp [maxLen]; omega)
        (Rowed.ts.2 fun k x hk => by
          have hkl := lt_of_getElem? hk
          simp at hkl
          have : x = mkElem z.size zs := by simp [hkl] at hk; exact hk.symm
          subst this
          rw [hel]
          refine ⟨hzl, fun j y' hj => ?_⟩
          have hjl := lt_of_getElem? hj
          have hlt : k * z.size + j < cp.toNat * z.size := by
            have : (k + 1) * z.size ≤ cp.toNat * z.size := Nat.mul_le_mul_right _ (by omega)
            rw [Nat.succ_mul] at this; omega
          obtain ⟨q, hq⟩ := arr_get (a := zv.cells) (i := j) (by omega)
          have hy1 : y'.one = true := by rw [List.all_eq_true] at hz1; exact hz1 y' (List.mem_of_getElem? hj)
          have rt := zk2 j y' q hj (by simpa using hq)
          refine ⟨q, ?_, hy1, rt, (rt.oneCell hy1).1⟩
          rw [made_get _ _ _ hlt (by omega), hzs0, Nat.mul_comm k, Nat.mul_add_mod, Nat.mod_eq_of_lt (by omega)]
          exact hq)
      have ev2 := ev_new hs (.cells (madeCells zv.cells (cp.toNat * z.size)) e) (.arr e z.size false g (.ts (List.replicate m (mkElem z.size zs))))
      refine ⟨_, _, _, _, _, run, ?_, hs2, ev2, below_new hs.hB _, h⟩
      refine .sl _ _ _ _ _ _ (new_at (w := w) (c := c) _).1 ⟨Nat.le_refl _, fun _ => ⟨by simp [Sq.length]; omega, .inr <| .inr ⟨by simp, w.heap.size, cp.toNat, 0, (new_at (.arr e z.size false g (.ts (List.replicate m (mkElem z.size zs))))).2, rfl, ?_, by omega, by simp [maxLen]; omega, .inr (by simp), fun _ => rfl⟩⟩⟩
      rw [rowSize_alloc, size_madeCells, Nat.zero_add]
    rw [br_iff] at h
    rcases h with ⟨_, h⟩ | ⟨_, h⟩
    · exact fin 1 cp.toNat (by omega) (Nat.le_refl _) (fun _ => rfl) h
    · exact fin 0 n.toNat (Nat.le_refl _) (by omega) (by omega) h
  · exact h.elim

/-! ### Conversions, len, append -/

theorem bytes_cells {bs : List UInt8} {i : Nat} {x : T} (h : (bs.map fun b => T.int .u8 (b.toNat : Int))[i]? = some x) : ∃ b, bs[i]? = some b ∧ x = .int .u8 (b.toNat : Int) := by
  simp only [List.getElem?_map, Option.map_eq_some_iff] at h
  obtain ⟨b, hb, rfl⟩ := h
  exact ⟨b, hb, rfl⟩

theorem strOfNums_map (bs : List UInt8) : (strOfNums (bs.map fun b => (b.toNat : Int))).data.toList = bs := by
  rw [strOfNums_data, List.map_map]
  have : ((fun n : Int => UInt8.ofNat n.toNat) ∘ fun b : UInt8 => (b.toNat : Int)) = id := by funext b; simp
  rw [this, List.map_id]

theorem xconvert_ok {tab : Tab} (hT : TabOK P tab) {src dst : TypeId} {c H B x v} {K : AV → Prop} (hs : HS w c H B) (h : xconvert tab src dst x H K) (hx : RA w c H x v) :
    ∃ y val, (convert src dst v).run P w = .ok val w ∧ RA w c H y val ∧ K y := by
  unfold xconvert at h
  rw [opt_iff] at h
  obtain ⟨y, hy, h⟩ := h
  rw [opt_iff] at h
  obtain ⟨z, hz, h⟩ := h
  have hd := (hT dst y hy).d
  have hsd := (hT src z hz).d
  split at h
  · rename_i k k' n he
    rw [he] at hd
    obtain rfl := hx.int
    exact ⟨_, _, by simp [convert, run_underlying hsd, run_underlying hd, Conv.intToInt], .t _ _ (.int _ _), h⟩
  · rename_i s he
    rw [he] at hd
    obtain ⟨bs, rfl, rfl⟩ := hx.str
    refine ⟨_, .string bs, ?_, .t _ _ (.str bs), h⟩
    simp only [convert, Sem.run_bind, run_underlying hsd, run_underlying hd, Result.andThen_ok]
    cases z.d <;> rfl
  · rename_i he
    rw [he] at hd
    cases hx with | t _ _ hx =>
    cases hx
    split at h
    · rename_i e hse
      rw [hse] at hsd
      rw [opt_iff] at h
      obtain ⟨q, hq, h⟩ := h
      split at h
      · rename_i hqe
        have hqd := (hT e q hq).d
        rw [hqe] at hqd
        exact ⟨_, .string ByteArray.empty, run_convert_bytes_nil w src e hsd hqd 0 0 dst hd, .t _ _ (.str ByteArray.empty), h⟩
      · exact h.elim
    · exact h.elim
  · rename_i s l he
    rw [he] at hd
    split at h
    · rename_i e hse
      rw [hse] at hsd
      rw [opt_iff] at h
      obtain ⟨q, hq, h⟩ := h
      split at h
      · rename_i hqe
        have hqd := (hT e q hq).d
        rw [hqe] at hqd
        rw [ck_iff] at h
        obtain ⟨hs1, bs, rfl, h⟩ := h
        have hs1 := Nat.eq_of_beq_eq_true hs1
        subst hs1
        cases hx with | t _ _ hx => cases hx with | vec _ _ b off cap sp vals hM hcap hsp hss hc hr =>
        by_cases hbs : bs = []
        · subst hbs
          refine ⟨_, .string ByteArray.empty, ?_, .t _ _ (.str ByteArray.empty), h⟩
          rw [run_convert_bytes_string w src dst e _ _ _ hsd hqd hd]
          have hl := run_loadCells_list (P := P) w ⟨b, off, sp⟩ [] (fun j v hj => by simp at hj)
          have hl : (loadCells ⟨b, off, sp⟩ 0).run P w = .ok #[] w := hl
          simp [Conv.bytesToString, hl]
        obtain rfl := hsp (fun e => hbs (by simpa using e))
        have run := run_convert_bytes_arg (P := P) w src e hsd hqd b off (bs.map fun b => T.int .u8 (b.toNat : Int)).length cap (bs.map fun b => (b.toNat : Int)) (by simp) (fun i hi => by
          simp at hi
          have hbi : (bs.map fun b => T.int .u8 (b.toNat : Int))[i]? = some (.int .u8 (bs[i].toNat : Int)) := by simp [hi]
          have h1 := (hc i _ 0 _ hbi rfl).1
          rw [Nat.mul_one, Nat.add_zero] at h1
          rw [h1]
          have hv : vals i 0 = .int .u8 (bs[i].toNat : Int) := by
            have := hr i _ 0 _ hbi rfl
            generalize vals i 0 = q at this
            cases this; rfl
          rw [hv]; simp [hi]) dst hd
        refine ⟨_, _, run, .t _ _ ?_, h⟩
        have e0 := strOfNums_map bs
        have := RT.str (w := w) (M := c.M H) (strOfNums (bs.map fun b => (b.toNat : Int)))
        rw [e0] at this
        exact this
      · exact h.elim
    · exact h.elim
  · rename_i b g i n he
    rw [he] at hd
    split at h
    · rename_i e hse
      rw [hse] at hsd
      rw [opt_iff] at h
      obtain ⟨q, hq, h⟩ := h
      split at h
      · rename_i hqe
        have hqd := (hT e q hq).d
        rw [hqe] at hqd
        cases hx with | sl _ _ _ _ _ blk hb hm hv =>
        rw [hb] at h
        cases blk with
        | dead => exact h.elim
        | box => exact h.elim
        | iter => exact h.elim
        | arr e' s z' gen l =>
         cases l with
         | vs l => exact h.elim
         | ts l =>
          simp only at h
          rw [ck_iff] at h
          obtain ⟨hcc, bs, hbs, h⟩ := h
          simp only [Bool.and_eq_true] at hcc
          have hg1 := Nat.eq_of_beq_eq_true hcc.1
          have hs1 := Nat.eq_of_beq_eq_true hcc.2
          subst hs1
          obtain ⟨hlen, hm⟩ := hm.2 hg1
          have hlen : i + n ≤ l.length := hlen
          have hbl : bs.length = n := by have := congrArg List.length hbs; simp at this; omega
          rcases hm with ⟨h1, h2, rfl⟩ | ⟨z1, h2, ad, rfl⟩ | ⟨hne, cb, cap, off, hg, rfl, hsz, hcap, hmx, hoff, hoff0⟩
          · have h2 : l.length = 0 := h2
            have : bs = [] := List.eq_nil_of_length_eq_zero (by omega)
            subst this
            exact ⟨_, .string ByteArray.empty, run_convert_bytes_nil w src e hsd hqd 0 0 dst hd, .t _ _ (.str ByteArray.empty), h⟩
          · have h2 : l.length = 0 := h2
            have : bs = [] := List.eq_nil_of_length_eq_zero (by omega)
            subst this
            refine ⟨_, .string ByteArray.empty, ?_, .t _ _ (.str ByteArray.empty), h⟩
            rw [run_convert_bytes_string w src dst e _ _ _ hsd hqd hd]
            have hl := run_loadCells_list (P := P) w ad [] (fun j v hj => by simp at hj)
            have hl : (loadCells ad 0).run P w = .ok #[] w := hl
            simp [Conv.bytesToString, hl]
          · obtain ⟨arr, cap', h1, h2, h3, h4, h5⟩ := hs.arr b cb e' _ z' gen _ hb hg
            have run := run_convert_bytes_arg (P := P) w src e hsd hqd cb off n cap (bs.map fun b => (b.toNat : Int)) (by simpa using hbl) (fun k hk => by
              have hki : k < bs.length := by omega
              have hbi : ((l.drop i).take n)[k]? = some (.int .u8 (bs[k].toNat : Int)) := by rw [hbs]; simp [hki]
              obtain ⟨u, hu, _, rt, _⟩ := (Rowed.ts.1 h5 _ _ (getElem?_take_drop hbi).2).2 0 _ rfl
              have hoff' : off = i * 1 := hoff.resolve_left (by omega)
              rw [cell_row h1, show off + k = (i + k) * 1 + 0 by omega, hu]
              cases rt
              simp [hki]) dst hd
            refine ⟨_, _, run, .t _ _ ?_, h⟩
            have e0 := strOfNums_map bs
            have := RT.str (w := w) (M := c.M H) (strOfNums (bs.map fun b => (b.toNat : Int)))
            rw [e0] at this
            exact this
      · exact h.elim
    · exact h.elim
  · exact h.elim

theorem lenA_ok {c H x v n} (hx : RA w c H x v) (h : lenA H x = some n) : (∃ s, v = .string s ∧ s.size = n ∧ isStrA x = true) ∨ (∃ a m, v = .slice a n m ∧ isStrA x = false) := by
  unfold lenA at h
  split at h
  · cases h
    obtain ⟨s, rfl, rfl⟩ := hx.str
    exact .inl ⟨s, rfl, rfl, rfl⟩
  · cases h
    cases hx with | t _ _ hx => cases hx with | vec => exact .inr ⟨_, _, rfl, rfl⟩
  · cases h
    cases hx with | t _ _ hx => cases hx; exact .inr ⟨_, _, rfl, rfl⟩
  · cases hx with | sl _ _ _ _ _ blk hb hm hv =>
    rw [hb] at h
    cases blk with
    | dead => cases h
    | box => cases h
    | iter => cases h
    | arr e s z gen l =>
      simp only at h
      split at h
      · rename_i hg
        cases h
        obtain ⟨hlen, hm⟩ := hm.2 (Nat.eq_of_beq_eq_true hg)
        rcases hm with ⟨h1, h2, rfl⟩ | ⟨z1, h2, ad, rfl⟩ | ⟨hne, cb, cap, off, _, rfl, _⟩
        · have : n = 0 := by omega
          subst this
          exact .inr ⟨_, _, rfl, rfl⟩
        · have : n = 0 := by omega
          subst this
          exact .inr ⟨_, _, rfl, rfl⟩
        · exact .inr ⟨_, _, rfl, rfl⟩
      · cases h
  · cases h
    cases hx; exact .inr ⟨_, _, rfl, rfl⟩
  · cases h

theorem xlen_ok {tab : Tab} (hT : TabOK P tab) {t : TypeId} {c H x v} {K : AV → Prop} (h : xlen tab t H x K) (hx : RA w c H x v) (ty : TypeId) :
    ∃ y val, (Builtin.len_ #[t] ty #[v]).run P w = .ok val w ∧ RA w c H y val ∧ K y := by
  unfold xlen at h
  rw [opt_iff] at h
  obtain ⟨y, hy, h⟩ := h
  have hd := (hT t y hy).d
  split at h
  · rename_i n e he
    rw [he] at hd
    refine ⟨_, .int .i64 n, ?_, .t _ _ (.int _ _), h⟩
    simp only [Builtin.len_, Sem.run_bind]
    simp [run_underlying hd, goInt]
  · rw [ck_iff] at h
    obtain ⟨hc, h⟩ := h
    rw [opt_iff] at h
    obtain ⟨n, hn, h⟩ := h
    simp only [Bool.and_eq_true] at hc
    rcases lenA_ok hx hn with ⟨s, rfl, rfl, hs⟩ | ⟨a, m, rfl, hs⟩
    · have he : y.d = .string := by
        cases hyd : y.d <;> rw [hyd] at hc <;> first | rfl | (simp [lenTy, isStrD, hs] at hc)
      rw [he] at hd
      exact ⟨_, .int .i64 s.size, by simp [Builtin.len_, run_underlying hd, goInt], .t _ _ (.int _ _), h⟩
    · obtain ⟨e, he⟩ : ∃ e, y.d = .slice e := by
        cases hyd : y.d <;> rw [hyd] at hc <;> simp [lenTy, isStrD, hs] at hc
        exact ⟨_, rfl⟩
      rw [he] at hd
      exact ⟨_, .int .i64 n, by simp [Builtin.len_, run_underlying hd, goInt], .t _ _ (.int _ _), h⟩

theorem xminmax_ok {c H x y u v} {mx : Bool} {K : AV → Prop} (h : xminmax mx x y K) (hx : RA w c H x u) (hy : RA w c H y v) (at_ : Array TypeId) (ty : TypeId) :
    ∃ z val, (match mx with | true => Builtin.max_ at_ ty #[u, v] | false => Builtin.min_ at_ ty #[u, v]).run P w = .ok val w ∧ RA w c H z val ∧ K z := by
  unfold xminmax at h
  split at h
  · rename_i k a k' b
    obtain rfl := hx.int
    obtain rfl := hy.int
    rw [ck_iff] at h
    obtain ⟨hk, h⟩ := h
    cases mx
    · refine ⟨_, .int k (min a b), ?_, .t _ _ (.int _ _), h⟩
      have : (if b < a then b else a) = min a b := by omega
      simp [Builtin.min_, Builtin.min2, this]
    · refine ⟨_, .int k (max a b), ?_, .t _ _ (.int _ _), h⟩
      have : (if a < b then b else a) = max a b := by omega
      simp [Builtin.max_, Builtin.max2, this]
  · exact h.elim

end
end Go.Proofs.YthpkehhghcpolaaDoor
