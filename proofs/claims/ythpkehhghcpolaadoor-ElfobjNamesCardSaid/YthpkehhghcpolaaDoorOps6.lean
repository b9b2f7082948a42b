/-
  append; and every operation but calls of functions.
-/
import Derived.Test.YthpkehhghcpolaaDoorOps5
namespace Go.Proofs.YthpkehhghcpolaaDoor
open Go.RowKit
set_option linter.unusedVariables false
set_option linter.unusedSimpArgs false

section
variable {P : Program} {w : World}

/-- Data that stand one after the other, as a list of values. -/
theorem rows_values {s : Nat} (hs : 1 ≤ s) {R : AV → Value → Prop} {l : Sq} {b off : Nat} (vals : Nat → Nat → Value) (hl : ∀ (i : Nat) x, l.get i = some x → x.cells.length = s)
    (hc : ∀ (i : Nat) x (j : Nat) y, l.get i = some x → x.cells[j]? = some y → w.cell? ⟨b, off + i * s + j, none⟩ = some (vals i j) ∧ y.one = true ∧ R y (vals i j) ∧ (vals i j).oneCell' = true) :
    ∃ news : List Value, news.length = l.length * s ∧ (∀ (k : Nat) v, news[k]? = some v → w.cell? (Addr.add ⟨b, off, none⟩ k) = some v) ∧ (∀ u ∈ news, u.oneCell' = true) ∧
      ∀ (i : Nat) x, l.get i = some x → ∀ (j : Nat) y, x.cells[j]? = some y → ∃ v, news[i * s + j]? = some v ∧ y.one = true ∧ R y v ∧ v.oneCell' = true := by
  have at_ : ∀ k, k < l.length * s → ∃ x y, l.get (k / s) = some x ∧ x.cells[k % s]? = some y := by
    intro k hk
    have hd : k / s < l.length := Nat.div_lt_of_lt_mul (by rw [Nat.mul_comm]; exact hk)
    obtain ⟨x, hx⟩ := Sq.get_of_lt hd
    have hm : k % s < x.cells.length := by rw [hl _ x hx]; exact Nat.mod_lt _ hs
    exact ⟨x, x.cells[k % s], hx, List.getElem?_eq_getElem hm⟩
  refine ⟨(List.range (l.length * s)).map fun k => vals (k / s) (k % s), by simp, fun k v hk => ?_, fun u hu => ?_, fun i x hi j y hj => ?_⟩
  · simp only [List.getElem?_map, Option.map_eq_some_iff] at hk
    obtain ⟨q, hq, rfl⟩ := hk
    have hlt := lt_of_getElem? hq
    rw [List.length_range] at hlt
    rw [List.getElem?_range hlt] at hq
    cases hq
    obtain ⟨x, y, e1, e2⟩ := at_ k hlt
    rw [Addr.add_lit]
    have := (hc _ x _ _ e1 e2).1
    rw [show off + k / s * s + k % s = off + k by have := Nat.div_add_mod k s; rw [Nat.mul_comm]; omega] at this
    exact this
  · simp only [List.mem_map, List.mem_range] at hu
    obtain ⟨k, hk, rfl⟩ := hu
    obtain ⟨x, y, e1, e2⟩ := at_ k hk
    exact (hc _ x _ _ e1 e2).2.2.2
  · have hjs : j < s := by have := lt_of_getElem? hj; have := hl i x hi; omega
    have hil := Sq.get_lt hi
    have hlt : i * s + j < l.length * s := by
      have : (i + 1) * s ≤ l.length * s := Nat.mul_le_mul_right _ hil
      rw [Nat.succ_mul] at this; omega
    obtain ⟨_, h1, h2⟩ := hc i x j y hi hj
    refine ⟨vals i j, ?_, h1, h2⟩
    have hd : (i * s + j) / s = i := by rw [Nat.mul_comm, Nat.mul_add_div (by omega), Nat.div_eq_of_lt hjs]; rfl
    have hm : (i * s + j) % s = j := by rw [Nat.mul_comm, Nat.mul_add_mod, Nat.mod_eq_of_lt hjs]
    simp only [List.getElem?_map, List.getElem?_range hlt, Option.map_some, hd, hm]

/-- Values hold data, element by element. -/
def Cont (w : World) (c : Cx) (H : AH) (s : Nat) (l : Sq) (vs : List Value) : Prop :=
  ∀ (i : Nat) x, l.get i = some x → x.cells.length = s ∧ ∀ (j : Nat) y, x.cells[j]? = some y → ∃ v, vs[i * s + j]? = some v ∧ y.one = true ∧ RA w c H y v ∧ v.oneCell' = true

theorem ts_get {l : List T} {i : Nat} {x : AV} (h : (Sq.ts l).get i = some x) : ∃ e, l[i]? = some e ∧ x = .t e := by
  simp only [Sq.get, Option.map_eq_some_iff] at h
  obtain ⟨e, h, rfl⟩ := h
  exact ⟨e, h, rfl⟩

theorem t_cell {e : T} {j : Nat} {y : AV} (h : (AV.t e).cells[j]? = some y) : ∃ c, e.cells[j]? = some c ∧ y = .t c := by
  rw [T.cells_t] at h
  simp only [List.getElem?_map, Option.map_eq_some_iff] at h
  obtain ⟨c, h, rfl⟩ := h
  exact ⟨c, h, rfl⟩

theorem cont_nil {w c H s} {l : Sq} {vs : List Value} (h : l.length = 0) : Cont w c H s l vs := fun i x hi => by
  have := Sq.get_lt hi; omega

/-- What is appended. -/
theorem appended_ok {c H B x v s} {news : Sq} (hs : HS w c H B) (hx : RA w c H x v) (hs1 : 1 ≤ s) (h : appended H s x = some news) :
    ∃ vs, Reads P w s news.length v vs ∧ Cont w c H s news vs := by
  unfold appended at h
  split at h
  · rename_i l
    split at h
    · rename_i hs'
      cases h
      have hs' := Nat.eq_of_beq_eq_true hs'
      subst hs'
      obtain ⟨bs, rfl, rfl⟩ := hx.str
      refine ⟨_, by simp only [Sq.length]; rw [List.length_map]; exact reads_str w bs, fun i y hi => ?_⟩
      obtain ⟨y, hi', rfl⟩ := ts_get hi
      obtain ⟨b, hb, rfl⟩ := bytes_cells hi'
      refine ⟨rfl, fun j z hj => ?_⟩
      obtain ⟨z, hj', rfl⟩ := t_cell hj
      have hj0 : j = 0 := by have := lt_of_getElem? hj'; simp [T.cells] at this; exact this
      subst hj0
      simp [T.cells] at hj'
      subst hj'
      exact ⟨.int .u8 (b.toNat : Int), by simp only [List.getElem?_map, Nat.mul_one, Nat.add_zero, hb, Option.map_some], rfl, .t _ _ (.int _ _), rfl⟩
    · cases h
  · rename_i s' l
    split at h
    · rename_i hs'
      cases h
      have hs' := Nat.eq_of_beq_eq_true hs'
      subst hs'
      cases hx with | t _ _ hx => cases hx with | vec _ _ b off cap sp vals hM hcap hsp hss hc hr =>
      by_cases hl0 : l = []
      · subst hl0
        exact ⟨[], reads_empty w _ _, cont_nil rfl⟩
      obtain rfl := hsp hl0
      have hss' : ∀ (i : Nat) x, (Sq.ts l).get i = some x → x.cells.length = s := fun i x hi => by
        obtain ⟨e, hi', rfl⟩ := ts_get hi
        rw [T.cells_t, List.length_map]; exact hss i e hi'
      obtain ⟨vs, h1, h2, h3, h4⟩ := rows_values (w := w) hs1 (R := RA w c H) (l := .ts l) vals hss' (fun i x j y hi hj => by
        obtain ⟨e, hi', rfl⟩ := ts_get hi
        obtain ⟨d, hj', rfl⟩ := t_cell hj
        obtain ⟨k1, k2⟩ := hc i e j d hi' hj'
        have k3 := hr i e j d hi' hj'
        exact ⟨k1, k2, .t _ _ k3, (k3.oneCell k2).1⟩)
      exact ⟨vs, reads_slice w h1 h2 h3, fun i x hi => ⟨hss' i x hi, h4 i x hi⟩⟩
    · cases h
  · cases h
    cases hx with | t _ _ hx =>
    cases hx
    exact ⟨[], reads_nil w, cont_nil rfl⟩
  · rename_i b g i n
    cases hx with | sl _ _ _ _ _ blk hb hm hv =>
    rw [hb] at h
    cases blk with
    | dead => cases h
    | box => cases h
    | iter => cases h
    | arr e s' z gen l =>
      simp only at h
      split at h
      · rename_i hcc
        cases h
        simp only [Bool.and_eq_true] at hcc
        have hs' := Nat.eq_of_beq_eq_true hcc.2
        subst hs'
        obtain ⟨hlen, hm⟩ := hm.2 (Nat.eq_of_beq_eq_true hcc.1)
        have hnl : (l.part i n).length = n := by rw [Sq.part_length]; omega
        rcases hm with ⟨h1, h2, rfl⟩ | ⟨z1, h2, ad, rfl⟩ | ⟨hne, cb, cap, off, hg, rfl, hsz, hcap, hmx, hoff, hoff0⟩
        · have hn0 : n = 0 := by omega
          subst hn0
          rw [hnl]
          exact ⟨[], reads_nil w, cont_nil hnl⟩
        · have hn0 : n = 0 := by omega
          subst hn0
          rw [hnl]
          exact ⟨[], reads_empty w _ _, cont_nil hnl⟩
        · obtain ⟨arr, cap', h1, h2, h3, h4, h5⟩ := hs.arr b cb e _ z gen l hb hg
          have hget : ∀ (k : Nat) x, (l.part i n).get k = some x → l.get (i + k) = some x := fun k x hk => by
            rw [Sq.part_get] at hk
            split at hk
            · exact hk
            · cases hk
          have hss : ∀ (k : Nat) x, (l.part i n).get k = some x → x.cells.length = s := fun k x hk => (h5 _ x (hget k x hk)).1
          by_cases hn0 : n = 0
          · subst hn0
            rw [hnl]
            exact ⟨[], reads_empty w _ _, cont_nil hnl⟩
          · have hoff' : off = i * s := hoff.resolve_left (by omega)
            obtain ⟨vs, k1, k2, k3, k4⟩ := rows_values (w := w) hs1 (R := RA w c H) (l := l.part i n) (b := cb) (off := off) (fun k j => arr.getD ((i + k) * s + j) undef) hss (fun k x j y hk hj => by
              obtain ⟨u, hu, q1, q2, q3⟩ := (h5 _ x (hget k x hk)).2 j y hj
              refine ⟨?_, q1, by simp only [Array.getD_eq_getD_getElem?, hu, Option.getD_some]; exact q2, by simp only [Array.getD_eq_getD_getElem?, hu, Option.getD_some]; exact q3⟩
              rw [cell_row h1, show off + k * s + j = (i + k) * s + j by rw [hoff', Nat.add_mul], hu]
              simp [Array.getD_eq_getD_getElem?, hu])
            rw [hnl]
            rw [hnl] at k1
            exact ⟨vs, reads_slice w k1 k2 k3, fun k x hk => ⟨hss k x hk, k4 k x hk⟩⟩
      · cases h
  · cases h
    cases hx
    exact ⟨[], reads_empty w _ _, cont_nil rfl⟩
  · cases h

theorem cont_append {c H} {s : Nat} {l1 l2 : Sq} {v1 v2 : List Value} (h1 : Cont w c H s l1 v1) (h2 : Cont w c H s l2 v2) (hl : v1.length = l1.length * s) : Cont w c H s (l1.app l2) (v1 ++ v2) := by
  intro i x hi
  rw [Sq.app_get] at hi
  by_cases hlt : i < l1.length
  · rw [if_pos hlt] at hi
    obtain ⟨a, b⟩ := h1 i x hi
    refine ⟨a, fun j y hj => ?_⟩
    obtain ⟨v, hv, r⟩ := b j y hj
    exact ⟨v, by rw [List.getElem?_append_left (lt_of_getElem? hv)]; exact hv, r⟩
  · rw [if_neg hlt] at hi
    obtain ⟨a, b⟩ := h2 _ x hi
    refine ⟨a, fun j y hj => ?_⟩
    obtain ⟨v, hv, r⟩ := b j y hj
    refine ⟨v, ?_, r⟩
    have e : i * s + j = v1.length + ((i - l1.length) * s + j) := by
      rw [hl, ← Nat.add_assoc, ← Nat.add_mul, show l1.length + (i - l1.length) = i by omega]
    rw [e, List.getElem?_append_right (by omega), show v1.length + ((i - l1.length) * s + j) - v1.length = (i - l1.length) * s + j by omega]
    exact hv

/-- Values at the head of an array. -/
theorem cont_array {c H} {s : Nat} {l : Sq} {vs : List Value} {arr : Array Value} (h : Cont w c H s l vs) (ha : ∀ (k : Nat) v, vs[k]? = some v → arr[k]? = some v) : Rowed w c H s l arr := by
  intro i x hi
  obtain ⟨a, b⟩ := h i x hi
  refine ⟨a, fun j y hj => ?_⟩
  obtain ⟨v, hv, r⟩ := b j y hj
  exact ⟨v, ha _ _ hv, r⟩

/-- An empty row, told in another way. -/
theorem empty_arr {c H B} (hs : HS w c H B) {b e s : Nat} {z : Bool} {g g' : Nat} {l l' : Sq} (hgg : g ≤ g') (hg2 : g' = g ∨ g' % 2 = 0) (hb : H[b]? = some (.arr e s z g l)) (h0 : l.length = 0) (h0' : l'.length = 0) :
    Ev w c H w c (H.set b (.arr e s z g' l')) ∧ HS w c (H.set b (.arr e s z g' l')) B := by
  have hlt := lt_of_getElem? hb
  have ev : Ev w c H w c (H.set b (.arr e s z g' l')) := by
    refine ⟨rfl, Nat.le_refl _, fun i bk hi => ?_, fun cb hm => ?_, fun _ _ _ => rfl, fun _ _ _ _ h => h⟩
    · by_cases h : b = i
      · subst h
        rw [hb] at hi; cases hi
        exact ⟨.arr e s z g' l', by simp [hlt], rfl, rfl, rfl, by omega, hgg, fun _ => ⟨by omega, fun _ h => ⟨h, rfl⟩⟩⟩
      · refine ⟨bk, by rw [List.getElem?_set_ne h]; exact hi, ?_⟩
        cases bk with
        | dead => trivial
        | box cs => exact ⟨rfl, fun _ h => h⟩
        | iter s p => exact ⟨rfl, fun _ h => h⟩
        | arr => exact ⟨rfl, rfl, rfl, Nat.le_refl _, Nat.le_refl _, fun _ => ⟨rfl, fun _ h => ⟨h, rfl⟩⟩⟩
    · rcases hm with hm | ⟨i, bk, hi, hl, hg⟩
      · exact .inl (.inl hm)
      · by_cases h : b = i
        · subst h
          exact .inl (.inr ⟨b, _, hb, rfl, hg⟩)
        · rw [List.getElem?_set_ne h] at hi
          exact .inl (.inr ⟨i, bk, hi, hl, hg⟩)
  refine ⟨ev, hs.keep ev hs.inj hs.base (fun i cb h => by have := hs.dom i cb h; simpa using this) (fun i cb cs hi hg => ?_) (fun i cb e1 s1 z1 g1 l1 hi hg => ?_) (fun i cb s1 p1 hi hg => ?_)⟩
  · by_cases h : b = i
    · subst h; simp [hlt] at hi
    · rw [List.getElem?_set_ne h] at hi; exact .inl ⟨hi, hg, rfl⟩
  · by_cases h : b = i
    · subst h
      simp [hlt] at hi
      obtain ⟨rfl, rfl, rfl, rfl, rfl⟩ := hi
      obtain ⟨arr, cap, a1, a2, a3, a4, a5⟩ := hs.arr b cb e s z g l hb hg
      exact .inr ⟨arr, cap, a1, a2, by omega, a4, fun k x hk => by have := Sq.get_lt hk; omega⟩
    · rw [List.getElem?_set_ne h] at hi; exact .inl ⟨hi, hg, rfl⟩
  · by_cases h : b = i
    · subst h; simp [hlt] at hi
    · rw [List.getElem?_set_ne h] at hi; exact .inl ⟨hi, hg, rfl⟩

theorem fitsRow_spec {n bytes : Nat} (h : fitsRow n bytes = true) : n ≤ 9223372036854775807 ∧ n * bytes ≤ 140737488355328 := by simpa [fitsRow] using h

theorem grown_array {olds vs : List Value} {z : Array Value} {n : Nat} : (∀ (k : Nat) v, (olds ++ vs)[k]? = some v → (olds.toArray ++ vs.toArray ++ Builtin.zeroCells z n)[k]? = some v) := by
  intro k v hk
  have hlt := lt_of_getElem? hk
  rw [Array.getElem?_append_left (by simpa using hlt)]
  rw [List.append_toArray, List.getElem?_toArray]
  exact hk

/-- A row that the model has laid anew: a new block of the walk's own. -/
theorem app_new {tab : Tab} {c H B} (hs : HS w c H B) (e s : Nat) (z : Bool) {news : Sq} {vs : List Value} (hc : Cont w c H s news vs) (cap : Nat) (arr : Array Value) (ha : ∀ (k : Nat) v, vs[k]? = some v → arr[k]? = some v)
    (hsz : arr.size = cap * s) (hcap : news.length ≤ cap) (hm : cap ≤ maxLen) (hne : ¬ news.length = 0) :
    RA (w.drew.alloc (.cells arr e)) (c.new H.length w.heap.size) (H ++ [.arr e s z 0 news]) (.sl H.length 0 0 news.length) (.slice (some ⟨w.heap.size, 0, none⟩) news.length cap) ∧
    HS (w.drew.alloc (.cells arr e)) (c.new H.length w.heap.size) (H ++ [.arr e s z 0 news]) B ∧
    Ev w c H (w.drew.alloc (.cells arr e)) (c.new H.length w.heap.size) (H ++ [.arr e s z 0 news]) ∧ Below B w (w.drew.alloc (.cells arr e)) := by
  have hsd : HS w.drew c H B := hs.same rfl
  have evd : Ev w c H w.drew c H := ev_same (w' := w.drew) (w := w) rfl c H
  have hcd : Cont w.drew c H s news vs := fun i x hi => ⟨(hc i x hi).1, fun j y hj => by
    obtain ⟨v, h1, h2, h3, h4⟩ := (hc i x hi).2 j y hj
    exact ⟨v, h1, h2, h3.ev evd, h4⟩⟩
  have hs2 := new_arr hsd e s z 0 news arr cap hsz ⟨hcap, by omega⟩ hm (cont_array hcd ha)
  have ev2 := ev_new hsd (.cells arr e) (.arr e s z 0 news)
  refine ⟨?_, hs2, evd.trans ev2, below_drew.trans (below_new hsd.hB _)⟩
  refine .sl _ _ _ _ _ (.arr e s z 0 news) getElem?_snoc_eq ⟨Nat.le_refl _, fun _ => ⟨by omega, .inr <| .inr ⟨fun hh => hne hh.2, w.heap.size, cap, 0, by simp [Cx.new], rfl, ?_, hcap, by omega, .inr (by simp), fun _ => rfl⟩⟩⟩
  have := rowSize_alloc w.drew arr e
  rw [show w.drew.heap.size = w.heap.size from rfl] at this
  rw [this, hsz, Nat.zero_add]

/-- A row of which a part is put anew. -/
theorem rowed_put {c H} {s i : Nat} {l news : Sq} {vs : List Value} {arr : Array Value} (hr : Rowed w c H s l arr) (hc : Cont w c H s news vs) (hvl : vs.length = news.length * s) (hi : i + news.length ≤ l.length) (hsz : l.length * s ≤ arr.size) :
    Rowed w c H s (l.put i news) (arr.toList.take (i * s) ++ vs ++ arr.toList.drop (i * s + vs.length)).toArray := by
  have hfit : i * s + vs.length ≤ arr.size := by
    have : (i + news.length) * s ≤ l.length * s := Nat.mul_le_mul_right _ hi
    rw [Nat.add_mul] at this
    omega
  intro k x hk
  rw [Sq.put_get hi] at hk
  have old : ∀ x, l.get k = some x → (k < i ∨ i + news.length ≤ k) → x.cells.length = s ∧ ∀ (j : Nat) y, x.cells[j]? = some y →
      ∃ v, (arr.toList.take (i * s) ++ vs ++ arr.toList.drop (i * s + vs.length)).toArray[k * s + j]? = some v ∧ y.one = true ∧ RA w c H y v ∧ v.oneCell' = true := by
    intro x hx hk
    obtain ⟨h1, h2⟩ := hr k x hx
    refine ⟨h1, fun j y hj => ?_⟩
    obtain ⟨v, b1, b2⟩ := h2 j y hj
    have hjl := lt_of_getElem? hj
    refine ⟨v, ?_, b2⟩
    rw [seg_get hfit, if_neg ?_]
    · exact b1
    · rintro ⟨c1, c2⟩
      rcases hk with hk | hk
      · have : (k + 1) * s ≤ i * s := Nat.mul_le_mul_right _ (by omega)
        rw [Nat.succ_mul] at this; omega
      · have : (i + news.length) * s ≤ k * s := Nat.mul_le_mul_right _ hk
        rw [Nat.add_mul] at this; omega
  split at hk
  · rename_i h1; exact old x hk (.inl h1)
  · split at hk
    · rename_i h1 h2
      obtain ⟨a1, a2⟩ := hc (k - i) x hk
      refine ⟨a1, fun j y hj => ?_⟩
      obtain ⟨v, b1, b2⟩ := a2 j y hj
      have hjl := lt_of_getElem? hj
      refine ⟨v, ?_, b2⟩
      have hlt := lt_of_getElem? b1
      have e : k * s = i * s + (k - i) * s := by rw [← Nat.add_mul]; congr 1; omega
      rw [seg_get hfit, if_pos (by omega), show k * s + j - i * s = (k - i) * s + j by omega]
      exact b1
    · rename_i h1 h2; exact old x hk (.inr (by omega))

theorem xappend_ok {tab : Tab} (hT : TabOK P tab) {t u : TypeId} {c H B a x v y} {K : AV → AH → Prop} (hs : HS w c H B) (ha : RA w c H a v) (hx : RA w c H x y)
    (hu : ∃ d, P.underlying u = some d ∧ ∀ k, d ≠ .int k) (h : xappend tab t H a x K) (ty : TypeId) : MOut P (Builtin.append_ #[t, u] ty #[v, y]) w c H B K := by
  unfold xappend at h
  rw [opt_iff] at h
  obtain ⟨i, hi, h⟩ := h
  have hd := (hT t i hi).d
  split at h
  · rename_i e he
    rw [he] at hd
    rw [opt_iff] at h
    obtain ⟨z, hz, h⟩ := h
    rw [opt_iff] at h
    obtain ⟨zs, hzs, h⟩ := h
    rw [opt_iff] at h
    obtain ⟨news, hnews, h⟩ := h
    rw [ck_iff] at h
    obtain ⟨hc, h⟩ := h
    simp only [Bool.and_eq_true] at hc
    have hs1 := Nat.le_of_ble_eq_true hc.1
    have hzl := Nat.eq_of_beq_eq_true hc.2
    obtain ⟨zv, r, hz', inf, hinf, hiz, his, hib⟩ := run_zero (w := w) hT hz hzs
    have hzv : zv.cells.size = z.size := by
      obtain ⟨q, _⟩ := ofVs_ok (w := w) (M := c.M H) hz'
      simpa [hzl] using q.symm
    obtain ⟨vs, reads, cont⟩ := appended_ok (P := P) hs hx hs1 hnews
    rw [← his] at reads
    have hvl : vs.length = news.length * z.size := by rw [← his]; exact reads.num
    -- the model lays a new row
    have grow : ∀ (base : Option Addr) (sLen sCap : Nat) (olds : List Value), olds.length = sLen * z.size → (∀ w' : World, w'.heap = w.heap → (Builtin.firstCells inf.size sLen (.slice base sLen sCap)).run P w' = .ok olds.toArray w') →
        sCap < sLen + news.length → fitsRow (sLen + news.length) z.bytes = true → ∃ arr cap, (Builtin.append_ #[t, u] ty #[.slice base sLen sCap, y]).run P w =
          .ok (.slice (some ⟨w.heap.size, 0, none⟩) (sLen + news.length) cap) (w.drew.alloc (.cells arr e)) ∧ arr.size = cap * z.size ∧ sLen + news.length ≤ cap ∧ cap ≤ maxLen ∧ ∀ (k : Nat) v, (olds ++ vs)[k]? = some v → arr[k]? = some v := by
      intro base sLen sCap olds hol ho hg hf
      obtain ⟨f1, f2⟩ := fitsRow_spec hf
      have run := run_app_grow (P := P) w t u ty e inf zv hd hu hinf hiz base sLen sCap olds ho y news.length vs reads hg f1 (by rw [hib]; exact f2)
      have hge := grownCap_ge w (sLen + news.length) sCap e
      have hcm : grownCap w (sLen + news.length) sCap e ≤ maxLen := grownCap_le_maxLen w _ sCap e (by simp only [maxLen]; omega)
      refine ⟨_, _, run, ?_, hge, hcm, grown_array⟩
      simp only [Array.size_append, List.size_toArray, size_zeroCells, hzv, hol, hvl, ← Nat.add_mul]
      congr 1; omega
    split at h
    · -- nil
      rw [ck_iff] at h
      obtain ⟨hf, h⟩ := h
      cases ha with | t _ _ ha =>
      cases ha
      by_cases hne : news.length = 0
      · rw [hne] at reads
        have hv0 : vs = [] := List.eq_nil_of_length_eq_zero (by rw [hvl, hne, Nat.zero_mul])
        have run := run_app_nil0 (P := P) w t u ty e inf hd hu hinf y vs reads
        obtain ⟨ev, hs'⟩ := new_none hs (.arr e z.size true 0 news)
        exact ⟨_, _, w, c, _, run, .sl _ _ _ _ _ (.arr e z.size true 0 news) getElem?_snoc_eq ⟨Nat.le_refl _, fun _ => ⟨by omega, .inl ⟨rfl, hne, rfl⟩⟩⟩, hs', ev, Below.refl _ _, h⟩
      · obtain ⟨arr, cap, run, a1, a2, a3, a4⟩ := grow none 0 0 [] (by simp) (fun w' _ => run_firstCells_none w' _ _ _ _) (by omega) (by rw [Nat.zero_add]; exact hf)
        simp only [Nat.zero_add, List.nil_append] at run a2 a4
        obtain ⟨r1, r2, r3, r4⟩ := app_new (tab := tab) hs e z.size true cont cap arr a4 a1 a2 a3 hne
        exact ⟨_, _, _, _, _, run, r1, r2, r3, r4, h⟩
    · -- empty, elsewhere
      rw [ck_iff] at h
      obtain ⟨hf, h⟩ := h
      cases ha with | emp ad =>
      by_cases hne : news.length = 0
      · rw [hne] at reads
        have hv0 : vs = [] := List.eq_nil_of_length_eq_zero (by rw [hvl, hne, Nat.zero_mul])
        have run := run_app_emp0 (P := P) w t u ty e inf hd hu hinf ad y vs reads
        obtain ⟨ev, hs'⟩ := new_none hs (.arr e z.size false 0 news)
        exact ⟨_, _, w, c, _, run, .sl _ _ _ _ _ (.arr e z.size false 0 news) getElem?_snoc_eq ⟨Nat.le_refl _, fun _ => ⟨by omega, .inr (.inl ⟨rfl, hne, ad, rfl⟩)⟩⟩, hs', ev, Below.refl _ _, h⟩
      · obtain ⟨arr, cap, run, a1, a2, a3, a4⟩ := grow (some ad) 0 0 [] (by simp) (fun w' _ => run_firstCells_some w' _ 0 _ 0 0 [] (by simp) (by simp)) (by omega) (by rw [Nat.zero_add]; exact hf)
        simp only [Nat.zero_add, List.nil_append] at run a2 a4
        obtain ⟨r1, r2, r3, r4⟩ := app_new (tab := tab) hs e z.size false cont cap arr a4 a1 a2 a3 hne
        exact ⟨_, _, _, _, _, run, r1, r2, r3, r4, h⟩
    · -- a row of the walk's own
      rename_i b g j n
      cases ha with | sl _ _ _ _ _ blk hb hm hv =>
      rw [hb] at h
      cases blk with
      | dead => exact h.elim
      | box => exact h.elim
      | iter => exact h.elim
      | arr e' s' z' gen l =>
        simp only at h
        rw [ck_iff] at h
        obtain ⟨hcc, h⟩ := h
        simp only [Bool.and_eq_true] at hcc
        have hg0 := Nat.eq_of_beq_eq_true hcc.1.1.1
        have hj := Nat.eq_of_beq_eq_true hcc.1.1.2
        have hee := Nat.eq_of_beq_eq_true hcc.1.2
        have hss := Nat.eq_of_beq_eq_true hcc.2
        subst hg0 hj hee hss
        obtain ⟨_, hm⟩ := hm.2 rfl
        have evd : Ev w c H w.drew c H := ev_same (w' := w.drew) (w := w) rfl c H
        have hgb : Blk.fix (.arr e z.size z' g l) = true → c.G b ≠ none := by
          intro hf
          simp only [Blk.fix, Bool.and_eq_true, Bool.not_eq_true', decide_eq_true_eq] at hf
          rcases hm with ⟨z1, l1, _⟩ | ⟨z1, l1, _⟩ | ⟨_, cb, cap, off, hg, _⟩
          · omega
          · omega
          · rw [hg]; simp
        rcases h with ⟨hln, h⟩ | h
        rotate_left
        · -- within what is there
          rw [ck_iff] at h
          obtain ⟨hin, h⟩ := h
          simp only [Bool.and_eq_true] at hin
          have hl1 := Nat.le_of_ble_eq_true hin.1
          have hin := Nat.le_of_ble_eq_true hin.2
          rcases hm with ⟨z1, l1, rfl⟩ | ⟨z1, l1, ad, rfl⟩ | ⟨hne0, cb, cap, off, hg, rfl, hsz, hcap, hmx, hoff, hoff0⟩
          · omega
          · omega
          obtain rfl := hoff0 rfl
          obtain ⟨arr, cap', h1, h2, h3, h4, h5⟩ := hs.arr b cb e z.size z' g l hb hg
          have hcc' : cap' = cap := by
            simp only [rowSize, h1, Nat.zero_add] at hsz
            rw [h2] at hsz
            exact (Nat.eq_of_mul_eq_mul_right (by omega) hsz).symm
          subst hcc'
          have hfit : n * inf.size + vs.length ≤ arr.size := by rw [his, hvl, h2, ← Nat.add_mul]; exact Nat.mul_le_mul_right _ (by omega)
          have run := run_app_room (P := P) w t u ty e inf hd hu hinf cb n cap' arr h1 y news.length vs reads (by omega) hfit
          rw [his] at run hfit
          obtain ⟨ev, hs'⟩ := set_arr hs hb hg h1 (seg_size (vs := vs) hfit) h2 (l' := l.put n news) (g' := g) (by rw [Sq.put_length hin]; omega) h4 (Nat.le_refl _) (by rw [Sq.put_length hin]; exact Nat.le_refl _) (fun _ => Sq.put_length hin)
            (rowed_put h5 cont hvl hin (by rw [h2]; exact Nat.mul_le_mul_right _ h3.1))
          have hlt := lt_of_getElem? hb
          refine ⟨_, _, _, _, _, run, .sl _ _ _ _ _ (.arr e z.size z' g (l.put n news)) (by simp [hlt]) ⟨Nat.le_refl _, fun _ => ⟨by rw [Sq.put_length hin]; omega, .inr <| .inr ⟨fun hh => hne0 ⟨hh.1, by have := hh.2; rw [Sq.put_length hin] at this; exact this⟩, cb, cap', 0, hg, rfl, ?_, by omega, by omega, .inr (by simp), fun _ => rfl⟩⟩⟩, hs', ev, below_setRow' (hs.base _ _ hg).1 _, h⟩
          simp only [rowSize, setRow_heap w cb arr _ e _ h1, seg_size (vs := vs) hfit, h2, Nat.zero_add]
        rw [ck_iff] at h
        obtain ⟨hf, h⟩ := h
        -- in a new block
        have move : ∀ (olds : List Value), olds.length = n * z.size → Cont w c H z.size l olds → ∀ arr cap, arr.size = cap * z.size → n + news.length ≤ cap → cap ≤ maxLen → (∀ (k : Nat) v, (olds ++ vs)[k]? = some v → arr[k]? = some v) → ¬ news.length = 0 →
            (Builtin.append_ #[t, u] ty #[v, y]).run P w = .ok (.slice (some ⟨w.heap.size, 0, none⟩) (n + news.length) cap) (w.drew.alloc (.cells arr e)) → MOut P (Builtin.append_ #[t, u] ty #[v, y]) w c H B K := by
          intro olds hol hco arr cap a1 a2 a3 a4 hne run
          have hal := Sq.app_length l news
          obtain ⟨ev, hs'⟩ := move_arr hs hb arr (l' := l.app news) (g' := g + 2 - g % 2) (cap := cap) a1 (by omega) a3 (by omega) hgb (by omega) (cont_array (cont_append hco cont (by rw [hol, hln])) a4)
          have hlt := lt_of_getElem? hb
          refine ⟨_, _, _, _, _, run, .sl _ _ _ _ _ (.arr e z.size z' (g + 2 - g % 2) (l.app news)) (by simp [hlt]) ⟨Nat.le_refl _, fun _ => ⟨by rw [Sq.app_length]; omega, .inr <| .inr ⟨fun hh => ?_, w.heap.size, cap, 0, by simp [Cx.new], rfl, ?_, a2, by omega, .inr (by simp), fun _ => rfl⟩⟩⟩, hs', ev, below_drew.trans (below_new (hs.same (w' := w.drew) rfl).hB _), h⟩
          · have := hh.2; omega
          · have := rowSize_alloc w.drew arr e
            rw [show w.drew.heap.size = w.heap.size from rfl] at this
            rw [this, a1, Nat.zero_add]
        -- nothing is appended, and nothing was there
        have idle : news.length = 0 → l.length = 0 → (Builtin.append_ #[t, u] ty #[v, y]).run P w = .ok v w → ((z' = true ∧ v = .slice none 0 0) ∨ (z' = false ∧ ∃ (ad : Addr), v = .slice (some ad) 0 0)) → MOut P (Builtin.append_ #[t, u] ty #[v, y]) w c H B K := by
          intro h1 h2 run hvv
          have hn0 : n = 0 := by omega
          subst hn0
          have hl0 : (l.app news).length = 0 := by rw [Sq.app_length]; omega
          obtain ⟨ev, hs'⟩ := empty_arr (g' := g + 2 - g % 2) hs (by omega) (.inr (by omega)) hb h2 (l' := l.app news) hl0
          rw [h1, Nat.add_zero] at h
          have hlt := lt_of_getElem? hb
          rcases hvv with ⟨k1, rfl⟩ | ⟨k1, ad, rfl⟩
          · exact ⟨_, _, w, c, _, run, .sl _ _ _ _ _ (.arr e z.size z' (g + 2 - g % 2) (l.app news)) (by simp [hlt]) ⟨Nat.le_refl _, fun _ => ⟨by omega, .inl ⟨k1, hl0, rfl⟩⟩⟩, hs', ev, Below.refl _ _, h⟩
          · exact ⟨_, _, w, c, _, run, .sl _ _ _ _ _ (.arr e z.size z' (g + 2 - g % 2) (l.app news)) (by simp [hlt]) ⟨Nat.le_refl _, fun _ => ⟨by omega, .inr (.inl ⟨k1, hl0, ad, rfl⟩)⟩⟩, hs', ev, Below.refl _ _, h⟩
        rcases hm with ⟨z1, l1, rfl⟩ | ⟨z1, l1, ad, rfl⟩ | ⟨hne0, cb, cap, off, hg, rfl, hsz, hcap, hmx, hoff, hoff0⟩
        · have hn0 : n = 0 := by omega
          subst hn0
          by_cases hne : news.length = 0
          · have hv0 : vs = [] := List.eq_nil_of_length_eq_zero (by rw [hvl, hne]; simp)
            rw [hne] at reads
            exact idle hne l1 (run_app_nil0 (P := P) w t u ty e inf hd hu hinf y vs reads) (.inl ⟨z1, rfl⟩)
          · obtain ⟨arr, cap, run, a1, a2, a3, a4⟩ := grow none 0 0 [] (by simp) (fun w' _ => run_firstCells_none w' _ _ _ _) (by omega) hf
            exact move [] (by simp) (cont_nil l1) arr cap a1 a2 a3 a4 hne run
        · have hn0 : n = 0 := by omega
          subst hn0
          by_cases hne : news.length = 0
          · have hv0 : vs = [] := List.eq_nil_of_length_eq_zero (by rw [hvl, hne]; simp)
            rw [hne] at reads
            exact idle hne l1 (run_app_emp0 (P := P) w t u ty e inf hd hu hinf ad y vs reads) (.inr ⟨z1, ad, rfl⟩)
          · obtain ⟨arr, cap, run, a1, a2, a3, a4⟩ := grow (some ad) 0 0 [] (by simp) (fun w' _ => run_firstCells_some w' _ 0 _ 0 0 [] (by simp) (by simp)) (by omega) hf
            exact move [] (by simp) (cont_nil l1) arr cap a1 a2 a3 a4 hne run
        · have ho := hoff0 rfl
          subst ho
          obtain ⟨arr, cap', h1, h2, h3, h4, h5⟩ := hs.arr b cb e z.size z' g l hb hg
          have hcc' : cap' = cap := by
            simp only [rowSize, h1, Nat.zero_add] at hsz
            rw [h2] at hsz
            exact (Nat.eq_of_mul_eq_mul_right (by omega) hsz).symm
          subst hcc'
          have hol : (arr.toList.take (n * z.size)).length = n * z.size := by
            have : n * z.size ≤ cap' * z.size := Nat.mul_le_mul_right _ (by omega)
            simp; omega
          have hco : Cont w c H z.size l (arr.toList.take (n * z.size)) := fun i x hi => ⟨(h5 i x hi).1, fun j y hj => by
            obtain ⟨v, q1, q2, q3, q4⟩ := (h5 i x hi).2 j y hj
            refine ⟨v, ?_, q2, q3, q4⟩
            have hjl := lt_of_getElem? hj
            have hil := Sq.get_lt hi
            have := (h5 i x hi).1
            have hlt : i * z.size + j < n * z.size := by
              have : (i + 1) * z.size ≤ n * z.size := Nat.mul_le_mul_right _ (by omega)
              rw [Nat.succ_mul] at this; omega
            rw [List.getElem?_take_of_lt hlt]
            simpa using q1⟩
          by_cases hroom : n + news.length ≤ cap'
          · have hfit : n * inf.size + vs.length ≤ arr.size := by rw [his, hvl, h2, ← Nat.add_mul]; exact Nat.mul_le_mul_right _ hroom
            have run := run_app_room (P := P) w t u ty e inf hd hu hinf cb n cap' arr h1 y news.length vs reads hroom hfit
            rw [his] at run hfit
            obtain ⟨ev, hs'⟩ := set_arr hs hb hg h1 (seg_size (vs := vs) hfit) h2 (l' := l.app news) (g' := g + 2 - g % 2) (by rw [Sq.app_length]; omega) h4 (by omega) (by rw [Sq.app_length]; omega) (fun hh => by rw [Sq.app_length]; omega)
              (cont_array (cont_append hco cont (by rw [hol, hln])) (fun k v hk => by
                rw [seg_get hfit]
                by_cases hlt : k < n * z.size
                · rw [if_neg (by omega)]
                  rw [List.getElem?_append_left (by omega), List.getElem?_take_of_lt hlt] at hk
                  simpa using hk
                · rw [List.getElem?_append_right (by omega), hol] at hk
                  have := lt_of_getElem? hk
                  rw [if_pos (by omega)]
                  exact hk))
            have hlt := lt_of_getElem? hb
            refine ⟨_, _, _, _, _, run, .sl _ _ _ _ _ (.arr e z.size z' (g + 2 - g % 2) (l.app news)) (by simp [hlt]) ⟨Nat.le_refl _, fun _ => ⟨by rw [Sq.app_length]; omega, .inr <| .inr ⟨fun hh => hne0 ⟨hh.1, ?_⟩, cb, cap', 0, hg, rfl, ?_, hroom, by omega, .inr (by simp), fun _ => rfl⟩⟩⟩, hs', ev, below_setRow' (hs.base b cb hg).1 _, h⟩
            · have := hh.2; rw [Sq.app_length] at this; omega
            · simp only [rowSize, setRow_heap w cb arr _ e _ h1, seg_size (vs := vs) hfit, h2, Nat.zero_add]
          · have hne : ¬ news.length = 0 := fun e => by omega
            obtain ⟨arr2, cap2, run, a1, a2, a3, a4⟩ := grow (some ⟨cb, 0, none⟩) n cap' (arr.toList.take (n * z.size)) hol (fun w' hw => run_firstCells_some w' _ n _ n cap' _ (by rw [his]; exact hol) (fun k v hk => by
              have hlt := lt_of_getElem? hk
              rw [hol] at hlt
              rw [List.getElem?_take_of_lt hlt] at hk
              rw [Addr.add_lit, Nat.zero_add]
              have : w'.cell? ⟨cb, k, none⟩ = w.cell? ⟨cb, k, none⟩ := by simp only [World.cell?, hw]
              rw [this, cell_row h1]
              simpa using hk)) (by omega) hf
            exact move _ hol hco arr2 cap2 a1 a2 a3 a4 hne run
    · exact h.elim
  · exact h.elim

/-! ### Zeros appended to nil, copies, capacities -/

theorem run_app_zero (t u ty e : TypeId) (i : TypeInfo) (zv : Value) (ht : P.underlying t = some (.slice e)) {ki : IntKind} (hu : P.underlying u = some (.int ki)) (hi : P.info? e = some i) (hz : i.zero = some zv)
    (n : Nat) (hn : 0 < n) (h63 : n ≤ 9223372036854775807) (hfit : n * i.bytes ≤ 140737488355328) (h1 : 1 ≤ i.size) :
    (Builtin.append_ #[t, u] ty #[.slice none 0 0, .int .i64 (n : Int)]).run P w =
      .ok (.slice (some ⟨w.heap.size, 0, none⟩) n (grownCap w n 0 e)) (w.drew.alloc (.cells (Builtin.zeroCells zv.cells n ++ Builtin.zeroCells zv.cells (grownCap w n 0 e - n)) e)) := by
  have hw : IntKind.i64.wrap (n : Int) = n := by rw [IntKind.wrap_i64]; omega
  have h0 : ¬ ((n : Int) < 0) := by omega
  have hb : ¬ (281474976710656 < (n : Int) * (i.bytes : Int)) := by
    have : ((n * i.bytes : Nat) : Int) ≤ 140737488355328 := by generalize n * i.bytes = q at hfit; omega
    rw [Int.natCast_mul] at this; omega
  have hfit' := growslice_fits (by omega : 0 < n) hfit
  have h48' : ¬ (281474976710656 < Builtin.nextslicecap n 0 * i.bytes) := by omega
  have h63' : ¬ (9223372036854775807 < (n : Int)) := by omega
  have hns : ¬ (n * i.size = 0) := by
    intro e0
    rcases Nat.mul_eq_zero.1 e0 with e1 | e1 <;> omega
  have hn0 : ¬ n = 0 := by omega
  have hs0 : ¬ i.size = 0 := by omega
  simp [Builtin.append_, run_underlying ht, run_underlying hu, sizeOf, typeInfo, zeroValue, hi, hz, asInt, asIntOf, hw, h0, hb, hn0, hs0, h63', h48', Question.forced, Builtin.firstCells, newRow, grownCap]
  intro hz0
  exact absurd hz0 (by simpa using hns)

theorem run_copy_at (dT sT ty elem : TypeId) (i : TypeInfo) (g o dLen dCap : Nat) (cur : Array Value) (t : TypeId) (hu : P.underlying dT = some (.slice elem)) (hi : P.info? elem = some i)
    (x : Value) (n : Nat) (news : List Value) (hx : Reads P w i.size n x news) (hn : n ≤ dLen) (hg : w.heap[g]? = some (.cells cur t (0, 0))) (hfit : o + news.length ≤ cur.size) :
    (Builtin.copy_ #[dT, sT] ty #[.slice (some ⟨g, o, none⟩) dLen dCap, x]).run P w = .ok (goInt n) (w.setRow g (cur.toList.take o ++ news ++ cur.toList.drop (o + news.length)).toArray) := by
  have hst := run_storeCells_at P g o t news 0 cur w hg (by simpa using hfit) hx.one
  have hm : Nat.min n dLen = n := Nat.min_eq_left hn
  have hf := hx.get w rfl
  simp only [Nat.add_zero] at hst
  simp [Builtin.copy_, run_underlying hu, hx.len, hm, sizeOf, typeInfo, hi, hf, hst]

theorem xcap_ok {tab : Tab} (hT : TabOK P tab) {t : TypeId} {c H B x v} {K : AV → Prop} (hs : HS w c H B) (h : xcap tab t H x K) (hx : RA w c H x v) (ty : TypeId) :
    ∃ y val, (Builtin.cap_ #[t] ty #[v]).run P w = .ok val w ∧ RA w c H y val ∧ K y := by
  unfold xcap at h
  rw [opt_iff] at h
  obtain ⟨y, hy, h⟩ := h
  have hd := (hT t y hy).d
  split at h
  · rename_i e he
    rw [he] at hd
    cases hx with | t _ _ hx =>
    cases hx
    exact ⟨_, .int .i64 0, by simp [Builtin.cap_, run_underlying hd, goInt], .t _ _ (.int _ _), h⟩
  · rename_i e b g i n he
    rw [he] at hd
    cases hx with | sl _ _ _ _ _ blk hb hm =>
    rw [hb] at h
    cases blk with
    | dead => exact h.elim
    | box => exact h.elim
    | iter => exact h.elim
    | arr e' s z gen l =>
      simp only at h
      rw [ck_iff] at h
      obtain ⟨hgg, h⟩ := h
      obtain ⟨hlen, hm2⟩ := hm.2 (Nat.eq_of_beq_eq_true hgg)
      rw [br_iff] at h
      rcases h with ⟨h0, k⟩ | ⟨h0, h⟩
      · simp only [Bool.and_eq_true] at h0
        have hl0 : l.length = 0 := Nat.eq_of_beq_eq_true h0.2
        rcases hm2 with ⟨z1, l1, rfl⟩ | ⟨z1, l1, ad, rfl⟩ | ⟨hne, _⟩
        · exact ⟨_, .int .i64 0, by simp [Builtin.cap_, run_underlying hd, goInt], .t _ _ (.int _ _), k⟩
        · rw [z1] at h0; simp at h0
        · exact (hne ⟨h0.1, hl0⟩).elim
      · rw [ck_iff] at h
        obtain ⟨hx2, k⟩ := h
        simp only [Bool.and_eq_true] at hx2
        have hodd := Nat.eq_of_beq_eq_true hx2.1
        have hs1 := Nat.le_of_ble_eq_true hx2.2
        rcases hm2 with ⟨z1, l1, rfl⟩ | ⟨z1, l1, ad, rfl⟩ | ⟨hne, cb, cap, off, hg, rfl, hsz', hcap, hmx, hoff, hoff0⟩
        · rw [z1, l1] at h0; simp at h0
        · refine ⟨_, .int .i64 0, by simp [Builtin.cap_, run_underlying hd, goInt], .t _ _ (.int _ _), ?_⟩
          rw [show l.length - i = 0 by omega] at k
          exact k
        · obtain ⟨arr0, cap0, h10, h20, h30, h40, h50⟩ := hs.arr b cb e' s z gen l hb hg
          have : i + cap = cap0 := by
            simp only [rowSize, h10] at hsz'
            rw [h20] at hsz'
            exact Nat.eq_of_mul_eq_mul_right (by omega) hsz'
          have := h30.2 hodd
          refine ⟨_, .int .i64 cap, by simp [Builtin.cap_, run_underlying hd, goInt], .t _ _ (.int _ _), ?_⟩
          rw [show l.length - i = cap by omega] at k
          exact k
  · exact h.elim

theorem xcopy_ok {tab : Tab} (hT : TabOK P tab) {t u : TypeId} {c H B a x v y} {K : AV → AH → Prop} (hs : HS w c H B) (ha : RA w c H a v) (hx : RA w c H x y) (h : xcopy tab t a x H K) (ty : TypeId) :
    MOut P (Builtin.copy_ #[t, u] ty #[v, y]) w c H B K := by
  unfold xcopy at h
  rw [opt_iff] at h
  obtain ⟨i, hi, h⟩ := h
  have hd := (hT t i hi).d
  split at h
  · rename_i e he
    rw [he] at hd
    rw [opt_iff] at h
    obtain ⟨z, hz, h⟩ := h
    split at h
    · rename_i b g j n
      cases ha with | sl _ _ _ _ _ blk hb hm hv =>
      rw [hb] at h
      cases blk with
      | dead => exact h.elim
      | box => exact h.elim
      | iter => exact h.elim
      | arr e' s' z' gen l =>
        simp only at h
        rw [opt_iff] at h
        obtain ⟨news, hnews, h⟩ := h
        rw [ck_iff, ck_iff] at h
        obtain ⟨hc, hn, h⟩ := h
        simp only [Bool.and_eq_true] at hc
        have hg0 := Nat.eq_of_beq_eq_true hc.1.1.1
        have hss := Nat.eq_of_beq_eq_true hc.1.1.2
        have hs1 := Nat.le_of_ble_eq_true hc.1.2
        have hl1 := Nat.le_of_ble_eq_true hc.2
        have hn := Nat.le_of_ble_eq_true hn
        subst hg0 hss
        obtain ⟨hln, hm⟩ := hm.2 rfl
        obtain ⟨inf, hinf, his, _⟩ := (hT e z hz).info
        obtain ⟨vs, reads, cont⟩ := appended_ok (P := P) hs hx hs1 hnews
        rw [← his] at reads
        have hvl : vs.length = news.length * z.size := by rw [← his]; exact reads.num
        rcases hm with ⟨z1, l1, rfl⟩ | ⟨z1, l1, ad, rfl⟩ | ⟨hne0, cb, cap, off, hg, rfl, hsz, hcap, hmx, hoff, hoff0⟩
        · omega
        · omega
        have hin : j + news.length ≤ l.length := by omega
        obtain ⟨arr, cap', h1, h2, h3, h4, h5⟩ := hs.arr b cb e' z.size z' g l hb hg
        have hsize : l.length * z.size ≤ arr.size := by rw [h2]; exact Nat.mul_le_mul_right _ h3.1
        have hpos : (j + news.length) * z.size ≤ l.length * z.size := Nat.mul_le_mul_right _ hin
        rw [Nat.add_mul] at hpos
        have hlt := lt_of_getElem? hb
        by_cases hcap0 : cap = 0
        · have hn0 : n = 0 := by omega
          have hnw : news.length = 0 := by omega
          have hv0 : vs = [] := List.eq_nil_of_length_eq_zero (by rw [hvl, hnw, Nat.zero_mul])
          subst hv0
          have hrun : (Builtin.copy_ #[t, u] ty #[.slice (some ⟨cb, off, none⟩) n cap, y]).run P w = .ok (goInt 0) w := by
            have hf := reads.get w rfl
            rw [hnw] at hf
            have hlen := reads.len
            rw [hnw] at hlen
            simp [Builtin.copy_, run_underlying hd, hlen, sizeOf, typeInfo, hinf, hf, storeCells]
          obtain ⟨ev, hs'⟩ := set_arr hs hb hg h1 rfl h2 (l' := l.put j news) (g' := g) (by rw [Sq.put_length hin]; omega) h4 (Nat.le_refl _) (by rw [Sq.put_length hin]; exact Nat.le_refl _) (fun _ => Sq.put_length hin)
            (by have := rowed_put h5 cont hvl hin hsize; simpa [List.take_append_drop] using this)
          rw [setRow_self w cb arr e' (0, 0) h1] at ev hs'
          rw [hnw] at h
          exact ⟨_, _, w, c, _, hrun, .t _ _ (.int _ _), hs', ev, Below.refl _ _, h⟩
        have ho : off = j * z.size := hoff.resolve_left hcap0
        subst ho
        have hfit : j * z.size + vs.length ≤ arr.size := by omega
        have run := run_copy_at (P := P) (w := w) t u ty e inf cb (j * z.size) n cap arr e' hd hinf y news.length vs reads hn h1 hfit
        obtain ⟨ev, hs'⟩ := set_arr hs hb hg h1 (seg_size (vs := vs) hfit) h2 (l' := l.put j news) (g' := g) (by rw [Sq.put_length hin]; omega) h4 (Nat.le_refl _) (by rw [Sq.put_length hin]; exact Nat.le_refl _) (fun _ => Sq.put_length hin)
          (rowed_put h5 cont hvl hin hsize)
        exact ⟨_, _, _, _, _, run, .t _ _ (.int _ _), hs', ev, below_setRow' (hs.base _ _ hg).1 _, h⟩
    · exact h.elim
  · exact h.elim

theorem xappendZ_ok {tab : Tab} (hT : TabOK P tab) {t u : TypeId} {c H B a x v y} {K : AV → AH → Prop} (hs : HS w c H B) (ha : RA w c H a v) (hx : RA w c H x y) {ki : IntKind} (hu : P.underlying u = some (.int ki))
    (h : xappendZ tab t a x H K) (ty : TypeId) : MOut P (Builtin.append_ #[t, u] ty #[v, y]) w c H B K := by
  unfold xappendZ at h
  rw [opt_iff] at h
  obtain ⟨i, hi, h⟩ := h
  have hd := (hT t i hi).d
  split at h
  · rename_i e he
    rw [he] at hd
    rw [opt_iff] at h
    obtain ⟨z, hz, h⟩ := h
    rw [opt_iff] at h
    obtain ⟨zs, hzs, h⟩ := h
    split at h
    · rename_i k n
      rw [ck_iff] at h
      obtain ⟨hc, h⟩ := h
      simp only [Bool.and_eq_true, decide_eq_true_eq] at hc
      obtain ⟨⟨⟨⟨⟨hk, h0⟩, hf⟩, hs1⟩, hzl⟩, hz1⟩ := hc
      obtain rfl := sameK_eq hk
      cases ha with | t _ _ ha =>
      cases ha
      obtain rfl := hx.int
      have hs1 := Nat.le_of_ble_eq_true hs1
      have hzl := Nat.eq_of_beq_eq_true hzl
      obtain ⟨f1, f2⟩ := fitsRow_spec hf
      obtain ⟨zv, r, hz', inf, hinf, hiz, his, hib⟩ := run_zero (w := w) hT hz hzs
      obtain ⟨zk1, zk2⟩ := ofVs_ok (w := w) (M := c.M H) hz'
      have hzs0 : zv.cells.size = z.size := by simpa [hzl] using zk1.symm
      obtain ⟨m, rfl⟩ := Int.eq_ofNat_of_zero_le (Int.le_of_lt h0)
      have hm : ((m : Int)).toNat = m := rfl
      rw [hm] at f1 f2 h
      have run := run_app_zero (P := P) (w := w) t u ty e inf zv hd hu hinf hiz m (by omega) f1 (by rw [hib]; exact f2) (by rw [his]; exact hs1)
      have hel := mkElem_cells hzl hz1 hs1
      have hge := grownCap_ge w m 0 e
      have hcm : grownCap w m 0 e ≤ maxLen := grownCap_le_maxLen w _ 0 e (by simp only [maxLen]; omega)
      have hvsl : (Builtin.zeroCells zv.cells m).toList.length = m * z.size := by simp [size_zeroCells, hzs0]
      have cont : Cont w c H z.size (.ts (List.replicate m (mkElem z.size zs))) (Builtin.zeroCells zv.cells m).toList := fun k x hk => by
        obtain ⟨e0, hk', rfl⟩ := ts_get hk
        have hkl := lt_of_getElem? hk'
        simp at hkl
        have : e0 = mkElem z.size zs := by simp [hkl] at hk'; exact hk'.symm
        subst this
        rw [T.cells_t, hel]
        refine ⟨by simpa using hzl, fun j y' hj => ?_⟩
        simp only [List.getElem?_map, Option.map_eq_some_iff] at hj
        obtain ⟨y', hj, rfl⟩ := hj
        have hjl := lt_of_getElem? hj
        have hlt : k * z.size + j < m * z.size := by
          have : (k + 1) * z.size ≤ m * z.size := Nat.mul_le_mul_right _ (by omega)
          rw [Nat.succ_mul] at this; omega
        obtain ⟨q, hq⟩ := arr_get (a := zv.cells) (i := j) (by omega)
        have hy1 : y'.one = true := by rw [List.all_eq_true] at hz1; exact hz1 y' (List.mem_of_getElem? hj)
        have rt := zk2 j y' q hj (by simpa using hq)
        refine ⟨q, ?_, hy1, .t _ _ rt, (rt.oneCell hy1).1⟩
        have hjz : (k * z.size + j) % zv.cells.size = j := by rw [hzs0, Nat.mul_comm k, Nat.mul_add_mod, Nat.mod_eq_of_lt (by omega)]
        have hlt2 : k * z.size + j < m * zv.cells.size := by rw [hzs0]; exact hlt
        simp only [Builtin.zeroCells, Array.toList_map, List.getElem?_map, Array.toList_range]
        rw [List.getElem?_range hlt2]
        simp only [Option.map_some, hjz]
        rw [← hq]
        have : j < zv.cells.size := by omega
        simp [this]
      obtain ⟨r1, r2, r3, r4⟩ := app_new (tab := tab) hs e z.size true cont (grownCap w m 0 e) (Builtin.zeroCells zv.cells m ++ Builtin.zeroCells zv.cells (grownCap w m 0 e - m))
        (fun k v hk => by rw [Array.getElem?_append_left (by have := lt_of_getElem? hk; simpa using this)]; simpa using hk)
        (by simp only [Array.size_append, size_zeroCells, hzs0, ← Nat.add_mul]; congr 1; omega) (by simp [Sq.length]; exact hge) hcm (by simp [Sq.length]; omega)
      have hlen : (Sq.ts (List.replicate m (mkElem z.size zs))).length = m := by simp [Sq.length]
      rw [hlen] at r1
      exact ⟨_, _, _, _, _, run, r1, r2, r3, r4, h⟩
    · exact h.elim
  · exact h.elim

end
end Go.Proofs.YthpkehhghcpolaaDoor
