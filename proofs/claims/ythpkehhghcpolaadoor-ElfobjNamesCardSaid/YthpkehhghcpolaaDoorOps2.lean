/-
  Looking at memory and at parts of values: loads, fields, elements, slices.
-/
import Derived.Test.YthpkehhghcpolaaDoorOps1
import Derived.Laws.Build
import Derived.Laws.Slices
namespace Go.Proofs.YthpkehhghcpolaaDoor
open Go.RowKit
set_option linter.unusedVariables false
set_option linter.unusedSimpArgs false

section
variable {P : Program} {w : World}

theorem run_isAgg {tab : Tab} (hT : TabOK P tab) {t : TypeId} {y : TyI} (hy : tab t = some y) (w : World) : (isAgg t).run P w = .ok y.isAgg w := by
  have hd := (hT t y hy).d
  simp only [isAgg, Sem.run_bind, run_underlying hd, Result.andThen_ok, TyI.isAgg]
  cases y.d <;> rfl

theorem run_sizeOf {tab : Tab} (hT : TabOK P tab) {t : TypeId} {y : TyI} (hy : tab t = some y) (w : World) : (sizeOf t).run P w = .ok y.size w := by
  obtain ⟨i, hi, hs, _⟩ := (hT t y hy).info
  simp [sizeOf, typeInfo, hi, hs]

theorem run_loadVar_agg {tab : Tab} (hT : TabOK P tab) {t : TypeId} {y : TyI} (hy : tab t = some y) (ha : y.isAgg = true) {b off : Nat} {vals : List Value} (hl : vals.length = y.size)
    (h : ∀ (j : Nat) v, vals[j]? = some v → w.cell? ⟨b, off + j, none⟩ = some v) : (loadVar t ⟨b, off, none⟩).run P w = .ok (.agg vals.toArray) w := by
  have e := run_loadCells_list (P := P) w ⟨b, off, none⟩ vals (fun j v hj => by rw [Addr.add_lit]; exact h j v hj)
  rw [hl] at e
  simp [loadVar, run_isAgg hT hy, ha, run_sizeOf hT hy, e]

theorem run_loadVar_one {tab : Tab} (hT : TabOK P tab) {t : TypeId} {y : TyI} (hy : tab t = some y) (ha : y.isAgg = false) {b off : Nat} {v : Value}
    (h : w.cell? ⟨b, off, none⟩ = some v) : (loadVar t ⟨b, off, none⟩).run P w = .ok v w := by
  simp [loadVar, run_isAgg hT hy, ha, h]

theorem run_part_agg {tab : Tab} (hT : TabOK P tab) {t : TypeId} {y : TyI} (hy : tab t = some y) (ha : y.isAgg = true) (cs : Array Value) (off : Nat) :
    (part t cs off).run P w = .ok (.agg (cs.extract off (off + y.size))) w := by
  simp [part, run_isAgg hT hy, ha, run_sizeOf hT hy]

theorem run_part_one {tab : Tab} (hT : TabOK P tab) {t : TypeId} {y : TyI} (hy : tab t = some y) (ha : y.isAgg = false) {cs : Array Value} {off : Nat} {v : Value} (h : cs[off]? = some v) :
    (part t cs off).run P w = .ok v w := by
  simp [part, run_isAgg hT hy, ha, h]

theorem getElem?_take_drop {α : Type} {l : List α} {o n i : Nat} {x : α} (h : ((l.drop o).take n)[i]? = some x) : i < n ∧ l[o + i]? = some x := by
  rw [List.getElem?_take] at h
  split at h
  · rw [List.getElem?_drop] at h; exact ⟨‹_›, h⟩
  · cases h

theorem arr_get {α : Type} {a : Array α} {i : Nat} (h : i < a.size) : ∃ v, a[i]? = some v := ⟨a[i], Array.getElem?_eq_getElem h⟩

/-- The parts of a value of a struct's or an array's type. -/
theorem partA_ok {tab : Tab} (hT : TabOK P tab) {t : TypeId} {y : TyI} (hy : tab t = some y) {c H} {cells : List AV} {vs : Array Value} (hl : cells.length = vs.size) (h1 : ∀ (i : Nat) x, cells[i]? = some x → x.one = true)
    (hr : ∀ (i : Nat) x v, cells[i]? = some x → vs[i]? = some v → RA w c H x v) {o : Nat} {K : AV → Prop} (h : partA y cells o K) :
    ∃ x val, (part t vs o).run P w = .ok val w ∧ RA w c H x val ∧ K x := by
  unfold partA at h
  split at h
  · rename_i ha
    rw [ck_iff] at h
    obtain ⟨hb, k⟩ := h
    have hb := Nat.le_of_ble_eq_true hb
    refine ⟨_, _, run_part_agg hT hy ha vs o, .agg _ _ (by simp; omega) (fun i x hi => h1 _ x (getElem?_take_drop hi).2) (fun i x v hi hv => ?_), k⟩
    obtain ⟨hlt, hi⟩ := getElem?_take_drop hi
    refine hr _ x v hi ?_
    rw [Array.getElem?_extract] at hv
    split at hv
    · exact hv
    · cases hv
  · rename_i ha
    rw [opt_iff] at h
    obtain ⟨x, hx, k⟩ := h
    obtain ⟨v, hv⟩ := arr_get (a := vs) (i := o) (by have := lt_of_getElem? hx; omega)
    exact ⟨x, v, run_part_one hT hy ha hv, hr o x v hx hv, k⟩

theorem partT_ok {tab : Tab} (hT : TabOK P tab) {t : TypeId} {y : TyI} (hy : tab t = some y) {M : Nat → Prop} {cells : List T} {vs : Array Value} (hl : cells.length = vs.size) (h1 : ∀ (i : Nat) x, cells[i]? = some x → x.one = true)
    (hr : ∀ (i : Nat) x v, cells[i]? = some x → vs[i]? = some v → RT w M x v) {o : Nat} {K : T → Prop} (h : partT y cells o K) :
    ∃ x val, (part t vs o).run P w = .ok val w ∧ RT w M x val ∧ K x := by
  unfold partT at h
  split at h
  · rename_i ha
    rw [ck_iff] at h
    obtain ⟨hb, k⟩ := h
    have hb := Nat.le_of_ble_eq_true hb
    refine ⟨_, _, run_part_agg hT hy ha vs o, .agg _ _ (by simp; omega) (fun i x hi => h1 _ x (getElem?_take_drop hi).2) (fun i x v hi hv => ?_), k⟩
    obtain ⟨hlt, hi⟩ := getElem?_take_drop hi
    refine hr _ x v hi ?_
    rw [Array.getElem?_extract] at hv
    split at hv
    · exact hv
    · cases hv
  · rename_i ha
    rw [opt_iff] at h
    obtain ⟨x, hx, k⟩ := h
    obtain ⟨v, hv⟩ := arr_get (a := vs) (i := o) (by have := lt_of_getElem? hx; omega)
    exact ⟨x, v, run_part_one hT hy ha hv, hr o x v hx hv, k⟩

/-- A variable in memory: its cells from 'off + o' on. -/
theorem loadA_ok {tab : Tab} (hT : TabOK P tab) {t : TypeId} {y : TyI} (hy : tab t = some y) {c H} {cells : List AV} {b off : Nat} (vals : Nat → Value)
    (hr : ∀ (i : Nat) x, cells[i]? = some x → x.one = true ∧ w.cell? ⟨b, off + i, none⟩ = some (vals i) ∧ RA w c H x (vals i)) {o : Nat} {K : AV → Prop} (h : partA y cells o K) :
    ∃ x val, (loadVar t ⟨b, off + o, none⟩).run P w = .ok val w ∧ RA w c H x val ∧ K x := by
  unfold partA at h
  split at h
  · rename_i ha
    rw [ck_iff] at h
    obtain ⟨hb, k⟩ := h
    have hb := Nat.le_of_ble_eq_true hb
    have cell : ∀ j, j < y.size → w.cell? ⟨b, off + o + j, none⟩ = some (vals (o + j)) := fun j hj => by
      have := (hr (o + j) _ (List.getElem?_eq_getElem (by omega))).2.1
      rw [Nat.add_assoc]; exact this
    refine ⟨_, _, run_loadVar_agg hT hy ha (vals := (List.range y.size).map fun j => vals (o + j)) (by simp) (fun j v hj => ?_), .agg _ _ (by simp; omega) (fun i x hi => (hr _ x (getElem?_take_drop hi).2).1) (fun i x v hi hv => ?_), k⟩
    · simp only [List.getElem?_map, Option.map_eq_some_iff] at hj
      obtain ⟨k, hk, rfl⟩ := hj
      have := lt_of_getElem? hk
      rw [List.length_range] at this
      rw [List.getElem?_range this] at hk
      cases hk
      exact cell _ this
    · obtain ⟨hlt, hi⟩ := getElem?_take_drop hi
      have : v = vals (o + i) := by simp [hlt] at hv; exact hv.symm
      subst this
      exact (hr _ x hi).2.2
  · rename_i ha
    rw [opt_iff] at h
    obtain ⟨x, hx, k⟩ := h
    exact ⟨x, _, run_loadVar_one hT hy ha (hr o x hx).2.1, (hr o x hx).2.2, k⟩

theorem loadT_ok {tab : Tab} (hT : TabOK P tab) {t : TypeId} {y : TyI} (hy : tab t = some y) {M : Nat → Prop} {cells : List T} {b off : Nat} (vals : Nat → Value)
    (hr : ∀ (i : Nat) x, cells[i]? = some x → x.one = true ∧ w.cell? ⟨b, off + i, none⟩ = some (vals i) ∧ RT w M x (vals i)) {o : Nat} {K : T → Prop} (h : partT y cells o K) :
    ∃ x val, (loadVar t ⟨b, off + o, none⟩).run P w = .ok val w ∧ RT w M x val ∧ K x := by
  unfold partT at h
  split at h
  · rename_i ha
    rw [ck_iff] at h
    obtain ⟨hb, k⟩ := h
    have hb := Nat.le_of_ble_eq_true hb
    have cell : ∀ j, j < y.size → w.cell? ⟨b, off + o + j, none⟩ = some (vals (o + j)) := fun j hj => by
      have := (hr (o + j) _ (List.getElem?_eq_getElem (by omega))).2.1
      rw [Nat.add_assoc]; exact this
    refine ⟨_, _, run_loadVar_agg hT hy ha (vals := (List.range y.size).map fun j => vals (o + j)) (by simp) (fun j v hj => ?_), .agg _ _ (by simp; omega) (fun i x hi => (hr _ x (getElem?_take_drop hi).2).1) (fun i x v hi hv => ?_), k⟩
    · simp only [List.getElem?_map, Option.map_eq_some_iff] at hj
      obtain ⟨k, hk, rfl⟩ := hj
      have := lt_of_getElem? hk
      rw [List.length_range] at this
      rw [List.getElem?_range this] at hk
      cases hk
      exact cell _ this
    · obtain ⟨hlt, hi⟩ := getElem?_take_drop hi
      have : v = vals (o + i) := by simp [hlt] at hv; exact hv.symm
      subst this
      exact (hr _ x hi).2.2
  · rename_i ha
    rw [opt_iff] at h
    obtain ⟨x, hx, k⟩ := h
    exact ⟨x, _, run_loadVar_one hT hy ha (hr o x hx).2.1, (hr o x hx).2.2, k⟩

theorem cell_row {cb j : Nat} {arr : Array Value} {e : TypeId} {fz : Nat × Nat} (h : w.heap[cb]? = some (.cells arr e fz)) : w.cell? ⟨cb, j, none⟩ = arr[j]? := by
  simp [World.cell?, h]

theorem xload_ok {tab : Tab} (hT : TabOK P tab) {t : TypeId} {c H B a v} {K : AV → Prop} (hs : HS w c H B) (h : xload tab t H a K) (ha : RA w c H a v) :
    ∃ x val, (Instr.loadAt t v).run P w = .ok val w ∧ RA w c H x val ∧ K x := by
  unfold xload at h
  rw [opt_iff] at h
  obtain ⟨y, hy, h⟩ := h
  split at h
  · rename_i cells
    cases ha with | t _ _ ha => cases ha with | iptr _ b off vals hM hc hr =>
    obtain ⟨x, val, r, rt, k⟩ := loadT_ok (w := w) hT hy (M := c.M H) (b := b) (off := off) vals (fun i x hi => ⟨(hc i x hi).2, (hc i x hi).1, hr i x hi⟩) h
    exact ⟨.t x, val, by simpa [Instr.loadAt, Instr.sureAddr] using r, .t _ _ rt, k⟩
  · rename_i b g i o
    cases ha with | ptr _ _ _ _ _ blk hb hm =>
    rw [hb] at h
    cases blk with
    | dead => exact h.elim
    | iter => exact h.elim
    | box cells =>
      obtain ⟨cb, hg, rfl⟩ := hm
      obtain ⟨arr, e, h1, h2, h3⟩ := hs.box b cb cells hb hg
      obtain ⟨x, val, r, rt, k⟩ := loadA_ok (w := w) hT hy (c := c) (H := H) (b := cb) (off := 0) (fun i => arr.getD i undef) (fun i x hi => by
        obtain ⟨v, hv⟩ := arr_get (a := arr) (i := i) (by have := lt_of_getElem? hi; omega)
        have := h3 i x v hi hv
        refine ⟨this.1, by rw [Nat.zero_add, cell_row h1, hv]; simp [Array.getD_eq_getD_getElem?, hv], by simpa [Array.getD_eq_getD_getElem?, hv] using this.2.1⟩) h
      rw [Nat.zero_add] at r
      exact ⟨x, val, by simpa [Instr.loadAt, Instr.sureAddr] using r, rt, k⟩
    | arr e s z gen l =>
     cases l with
     | vs l =>
      simp only at h
      rw [ck_iff] at h
      obtain ⟨hgg, h⟩ := h
      rw [opt_iff] at h
      obtain ⟨x0, hx0, h⟩ := h
      obtain ⟨cb, hg, rfl⟩ := hm.2 (Nat.eq_of_beq_eq_true hgg)
      obtain ⟨arr, cap, h1, h2, h3, h4, h5⟩ := hs.arr b cb e s z gen _ hb hg
      obtain ⟨h6, h7⟩ := h5 i x0 hx0
      obtain ⟨x, val, r, rt, k⟩ := loadA_ok (w := w) hT hy (c := c) (H := H) (b := cb) (off := i * s) (fun j => arr.getD (i * s + j) undef) (fun j y hj => by
        obtain ⟨v, hv, b2, b3, b4⟩ := h7 j y hj
        exact ⟨b2, by rw [cell_row h1, hv]; simp [Array.getD_eq_getD_getElem?, hv], by simpa [Array.getD_eq_getD_getElem?, hv] using b3⟩) h
      exact ⟨x, val, by simpa [Instr.loadAt, Instr.sureAddr] using r, rt, k⟩
     | ts l =>
      simp only at h
      rw [ck_iff] at h
      obtain ⟨hgg, h⟩ := h
      rw [opt_iff] at h
      obtain ⟨x0, hx0, h⟩ := h
      obtain ⟨cb, hg, rfl⟩ := hm.2 (Nat.eq_of_beq_eq_true hgg)
      obtain ⟨arr, cap, h1, h2, h3, h4, h5⟩ := hs.arr b cb e s z gen _ hb hg
      obtain ⟨h6, h7⟩ := Rowed.ts.1 h5 i x0 hx0
      obtain ⟨x, val, r, rt, k⟩ := loadT_ok (w := w) hT hy (M := c.M H) (b := cb) (off := i * s) (fun j => arr.getD (i * s + j) undef) (fun j y hj => by
        obtain ⟨v, hv, b2, b3, b4⟩ := h7 j y hj
        exact ⟨b2, by rw [cell_row h1, hv]; simp [Array.getD_eq_getD_getElem?, hv], by simpa [Array.getD_eq_getD_getElem?, hv] using b3⟩) h
      exact ⟨.t x, val, by simpa [Instr.loadAt, Instr.sureAddr] using r, .t _ _ rt, k⟩
  · exact h.elim

theorem fieldOf_eq {y : TyI} {k : Nat} {f : Field} (h : fieldOf y k = some f) : ∃ fs, y.d = .struct fs ∧ fs[k]? = some f := by
  unfold fieldOf at h
  split at h
  · exact ⟨_, ‹_›, h⟩
  · cases h

theorem xfieldAddr_ok {tab : Tab} (hT : TabOK P tab) {t : TypeId} {c H a v k} {K : AV → Prop} (h : xfieldAddr tab t H a k K) (ha : RA w c H a v) :
    ∃ x val, (Instr.fieldAt t v k).run P w = .ok val w ∧ RA w c H x val ∧ K x := by
  unfold xfieldAddr at h
  rw [opt_iff] at h
  obtain ⟨y, hy, h⟩ := h
  rw [opt_iff] at h
  obtain ⟨f, hf, h⟩ := h
  rw [opt_iff] at h
  obtain ⟨z, hz, h⟩ := h
  rw [ck_iff] at h
  obtain ⟨hsz, h⟩ := h
  have hsz := Nat.le_of_ble_eq_true hsz
  obtain ⟨fs, hfs, hfk⟩ := fieldOf_eq hf
  have hd := (hT t y hy).d
  rw [hfs] at hd
  have run : ∀ b o, (Instr.fieldAt t (.pointer (some ⟨b, o, none⟩)) k).run P w = .ok (.pointer (some ⟨b, o + f.offset, none⟩)) w := by
    intro b o
    have hne : ¬ z.size = 0 := by omega
    simp [Instr.fieldAt, run_underlying hd, hfk, Instr.sureAddr, fieldPlace, run_sizeOf hT hz, hne, Addr.add_lit]
  split at h
  · rename_i cells
    cases ha with | t _ _ ha => cases ha with | iptr _ b off vals hM hc hr =>
    refine ⟨_, _, run b off, .t _ _ (.iptr _ b (off + f.offset) (fun i => vals (f.offset + i)) (fun hne => hM (fun e => hne (by simp [e]))) (fun i x hi => ?_) (fun i x hi => ?_)), h⟩
    · rw [List.getElem?_drop] at hi; rw [Nat.add_assoc]; exact hc _ x hi
    · rw [List.getElem?_drop] at hi; exact hr _ x hi
  · rename_i b g i o
    cases ha with | ptr _ _ _ _ _ blk hb hm =>
    rw [hb] at h
    cases blk with
    | dead => exact h.elim
    | iter => exact h.elim
    | box cells =>
      obtain ⟨cb, hg, rfl⟩ := hm
      exact ⟨_, _, run cb o, .ptr _ _ _ _ _ _ hb ⟨cb, hg, rfl⟩, h⟩
    | arr e s z gen l =>
      simp only at h
      rw [ck_iff] at h
      obtain ⟨hgg, h⟩ := h
      obtain ⟨cb, hg, rfl⟩ := hm.2 (Nat.eq_of_beq_eq_true hgg)
      exact ⟨_, _, run cb _, .ptr _ _ _ _ _ _ hb ⟨hm.1, fun _ => ⟨cb, hg, by rw [Nat.add_assoc]⟩⟩, h⟩
  · exact h.elim

theorem xfield_ok {tab : Tab} (hT : TabOK P tab) {t : TypeId} {c H a v k} {K : AV → Prop} (h : xfield tab t a k K) (ha : RA w c H a v) :
    ∃ x val, (Instr.field t v k).run P w = .ok val w ∧ RA w c H x val ∧ K x := by
  unfold xfield at h
  rw [opt_iff] at h
  obtain ⟨y, hy, h⟩ := h
  rw [opt_iff] at h
  obtain ⟨f, hf, h⟩ := h
  rw [opt_iff] at h
  obtain ⟨z, hz, h⟩ := h
  obtain ⟨fs, hfs, hfk⟩ := fieldOf_eq hf
  have hd := (hT t y hy).d
  rw [hfs] at hd
  split at h
  · cases ha with | t _ _ ha => cases ha with | agg _ vs hl h1 hr =>
    obtain ⟨x, val, r, rt, k⟩ := partT_ok (w := w) hT hz hl h1 hr h
    exact ⟨.t x, val, by simpa [Instr.field, run_underlying hd, hfk, asAgg] using r, .t _ _ rt, k⟩
  · cases ha with | agg _ vs hl h1 hr =>
    obtain ⟨x, val, r, rt, k⟩ := partA_ok (w := w) hT hz hl h1 hr h
    exact ⟨x, val, by simpa [Instr.field, run_underlying hd, hfk, asAgg] using r, rt, k⟩
  · exact h.elim

theorem inB_spec {i : Int} {n : Nat} (h : inB i n = true) : 0 ≤ i ∧ i < n ∧ i.toNat < n ∧ (i.toNat : Int) = i := by
  simp [inB] at h; omega

theorem xindexAddr_ok {tab : Tab} (hT : TabOK P tab) {t : TypeId} {c H a v ix iv} {K : AV → Prop} (h : xindexAddr tab t H a ix K) (ha : RA w c H a v) (hi : RA w c H ix iv) :
    ∃ x val, (Instr.indexAt t v iv).run P w = .ok val w ∧ RA w c H x val ∧ K x := by
  unfold xindexAddr at h
  rw [opt_iff] at h
  obtain ⟨y, hy, h⟩ := h
  have hd := (hT t y hy).d
  split at h
  · rename_i k i
    obtain rfl := hi.int
    split at h
    · rename_i e s l hyd
      rw [hyd] at hd
      rw [opt_iff] at h
      obtain ⟨z, hz, h⟩ := h
      rw [ck_iff] at h
      obtain ⟨hb, h⟩ := h
      simp at hb
      rw [opt_iff] at h
      obtain ⟨x, hx, h⟩ := h
      cases ha with | t _ _ ha => cases ha with | vec _ _ b off cap sp vals hM hcap hsp hss hc hr =>
      obtain rfl := hsp (fun e => by subst e; simp at hx)
      have hlt := lt_of_getElem? hx
      have hin : 0 ≤ i ∧ i < (l.length : Int) := by omega
      have hsz := run_sizeOf hT hz w
      refine ⟨_, .pointer (some ⟨b, off + i.toNat * z.size, none⟩), ?_, .t _ _ (.iptr x.cells b _ (fun j => vals i.toNat j) (fun hne => ?_) (fun j y hj => ?_) (fun j y hj => ?_)), h⟩
      · simp [Instr.indexAt, asIntOf, run_underlying hd, hin, hsz, Addr.add_lit]
      · refine hM (fun e => by simp [e] at hlt) ?_
        have := hss _ x hx
        have : x.cells.length ≠ 0 := fun e => hne (List.eq_nil_of_length_eq_zero e)
        omega
      · have := hc _ x j y hx hj
        rw [← hb.1]; exact this
      · exact hr _ x j y hx hj
    · rename_i e b g j len hyd
      rw [hyd] at hd
      rw [opt_iff] at h
      obtain ⟨z, hz, h⟩ := h
      cases ha with | sl _ _ _ _ _ blk hb hm =>
      rw [hb] at h
      cases blk with
      | dead => exact h.elim
      | box => exact h.elim
      | iter => exact h.elim
      | arr e' s z' gen l =>
        simp only at h
        rw [ck_iff] at h
        obtain ⟨hc, h⟩ := h
        simp only [Bool.and_eq_true] at hc
        obtain ⟨⟨hg1, hs1⟩, hin⟩ := hc
        have hg1 := Nat.eq_of_beq_eq_true hg1
        have hs1 := Nat.eq_of_beq_eq_true hs1
        obtain ⟨i0, i1, i2, i3⟩ := inB_spec hin
        obtain ⟨hlen, hm⟩ := hm.2 hg1
        rcases hm with ⟨_, l0, _⟩ | ⟨_, l0, _⟩ | ⟨_, cb, cap, off, hg, rfl, hsz', hcap, hmx, hoff, hoff0⟩
        · omega
        · omega
        · have hoff' : off = j * s := hoff.resolve_left (by omega)
          subst hoff'
          have hsz := run_sizeOf hT hz w
          have hin' : 0 ≤ i ∧ i < (len : Int) := ⟨i0, i1⟩
          refine ⟨_, .pointer (some ⟨cb, j * s + i.toNat * z.size, none⟩), ?_, .ptr _ _ _ _ _ _ hb ⟨by omega, fun _ => ⟨cb, hg, ?_⟩⟩, h⟩
          · simp [Instr.indexAt, asIntOf, run_underlying hd, hin', hsz, Addr.add_lit]
          · rw [← hs1, Nat.add_mul, Nat.add_zero]
    · rename_i n e b g j o hyd
      rw [hyd] at hd
      rw [opt_iff] at h
      obtain ⟨z, hz, h⟩ := h
      rw [ck_iff] at h
      obtain ⟨hin, h⟩ := h
      obtain ⟨i0, i1, i2, i3⟩ := inB_spec hin
      have hsz := run_sizeOf hT hz w
      have run : ∀ cb q, (Instr.indexAt t (.pointer (some ⟨cb, q, none⟩)) (.int k i)).run P w = .ok (.pointer (some ⟨cb, q + i.toNat * z.size, none⟩)) w := by
        intro cb q
        simp [Instr.indexAt, asIntOf, run_underlying hd, Instr.sureAddr, i0, i1, hsz, Addr.add_lit]
      cases ha with | ptr _ _ _ _ _ blk hb hm =>
      rw [hb] at h
      cases blk with
      | dead => exact h.elim
      | iter => exact h.elim
      | box cells =>
        obtain ⟨cb, hg, rfl⟩ := hm
        exact ⟨_, _, run cb o, .ptr _ _ _ _ _ _ hb ⟨cb, hg, rfl⟩, h⟩
      | arr e' s z' gen l =>
        simp only at h
        rw [ck_iff] at h
        obtain ⟨hgg, h⟩ := h
        obtain ⟨cb, hg, rfl⟩ := hm.2 (Nat.eq_of_beq_eq_true hgg)
        exact ⟨_, _, run cb _, .ptr _ _ _ _ _ _ hb ⟨hm.1, fun _ => ⟨cb, hg, by rw [Nat.add_assoc]⟩⟩, h⟩
    · rename_i n e cells hyd
      rw [hyd] at hd
      rw [opt_iff] at h
      obtain ⟨z, hz, h⟩ := h
      rw [ck_iff] at h
      obtain ⟨hin, h⟩ := h
      obtain ⟨i0, i1, i2, i3⟩ := inB_spec hin
      have hsz := run_sizeOf hT hz w
      cases ha with | t _ _ ha => cases ha with | iptr _ b off vals hM hc hr =>
      refine ⟨_, .pointer (some ⟨b, off + i.toNat * z.size, none⟩), ?_, .t _ _ (.iptr _ b _ (fun j => vals (i.toNat * z.size + j)) (fun hne => hM (fun e => hne (by simp [e]))) (fun j x hj => ?_) (fun j x hj => ?_)), h⟩
      · simp [Instr.indexAt, asIntOf, run_underlying hd, Instr.sureAddr, i0, i1, hsz, Addr.add_lit]
      · rw [List.getElem?_drop] at hj; rw [Nat.add_assoc]; exact hc _ x hj
      · rw [List.getElem?_drop] at hj; exact hr _ x hj
    · exact h.elim
  · exact h.elim

theorem xindex_ok {tab : Tab} (hT : TabOK P tab) {t : TypeId} {c H a v ix iv} {K : AV → Prop} (h : xindex tab t a ix K) (ha : RA w c H a v) (hi : RA w c H ix iv) :
    ∃ x val, (Instr.index t v iv).run P w = .ok val w ∧ RA w c H x val ∧ K x := by
  unfold xindex at h
  rw [opt_iff] at h
  obtain ⟨y, hy, h⟩ := h
  have hd := (hT t y hy).d
  split at h
  · rename_i k i
    obtain rfl := hi.int
    split at h
    · rename_i s hyd
      rw [hyd] at hd
      rw [ck_iff] at h
      obtain ⟨hb, h⟩ := h
      simp at hb
      rw [opt_iff] at h
      obtain ⟨x, hx, h⟩ := h
      obtain ⟨bs, rfl, rfl⟩ := ha.str
      have hlt := lt_of_getElem? hx
      have hlt' : i.toNat < bs.size := hlt
      have hget : bs[i.toNat]? = some x := by
        rw [getElem?_pos bs i.toNat hlt']
        have : bs.data.toList[i.toNat]? = some bs[i.toNat] := by
          show bs.data.toList[i.toNat]? = some bs.data[i.toNat]
          simp
        rw [this] at hx
        exact hx
      exact ⟨_, .int .u8 x.toNat, by simp [Instr.index, asIntOf, run_underlying hd, hb, hget], .t _ _ (.int _ _), h⟩
    · rename_i n e cs hyd
      rw [hyd] at hd
      rw [opt_iff] at h
      obtain ⟨z, hz, h⟩ := h
      rw [ck_iff] at h
      obtain ⟨hin, h⟩ := h
      obtain ⟨i0, i1, i2, i3⟩ := inB_spec hin
      have hsz := run_sizeOf hT hz w
      cases ha with | t _ _ ha => cases ha with | agg _ vs hl h1 hr =>
      obtain ⟨x, val, r, rt, k⟩ := partT_ok (w := w) hT hz hl h1 hr h
      exact ⟨.t x, val, by simpa [Instr.index, asIntOf, run_underlying hd, i0, i1, hsz] using r, .t _ _ rt, k⟩
    · rename_i n e cs hyd
      rw [hyd] at hd
      rw [opt_iff] at h
      obtain ⟨z, hz, h⟩ := h
      rw [ck_iff] at h
      obtain ⟨hin, h⟩ := h
      obtain ⟨i0, i1, i2, i3⟩ := inB_spec hin
      have hsz := run_sizeOf hT hz w
      cases ha with | agg _ vs hl h1 hr =>
      obtain ⟨x, val, r, rt, k⟩ := partA_ok (w := w) hT hz hl h1 hr h
      exact ⟨x, val, by simpa [Instr.index, asIntOf, run_underlying hd, i0, i1, hsz] using r, rt, k⟩
    · exact h.elim
  · exact h.elim

end
end Go.Proofs.YthpkehhghcpolaaDoor
