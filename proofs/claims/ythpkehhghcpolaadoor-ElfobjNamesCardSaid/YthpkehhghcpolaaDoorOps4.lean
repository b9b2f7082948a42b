/-
  New memory: variables, literals, made slices; conversions.
-/
import Derived.Test.YthpkehhghcpolaaDoorOps3
import Derived.Laws.MakeOwn
import Derived.Laws.BytesArg
import Derived.IntWalk
namespace Go.Proofs.YthpkehhghcpolaaDoor
open Go.RowKit
set_option linter.unusedVariables false
set_option linter.unusedSimpArgs false

section
variable {P : Program} {w : World}

theorem ofV1_ok {M : Nat → Prop} {v : Value} {x : T} (h : ofV1 v = some x) : RT w M x v := by
  unfold ofV1 at h
  split at h <;> first | (cases h; constructor) | cases h

theorem ofVs_ok {M : Nat → Prop} : ∀ {vs : List Value} {l : List T}, ofVs vs = some l → l.length = vs.length ∧ ∀ (i : Nat) x v, l[i]? = some x → vs[i]? = some v → RT w M x v
  | [], l, h => by simp [ofVs] at h; subst h; simp
  | v :: r, l, h => by
    simp only [ofVs] at h
    split at h
    · rename_i x l' hx hl
      cases h
      obtain ⟨h1, h2⟩ := ofVs_ok (M := M) hl
      refine ⟨by simp [h1], fun i y u hi hu => ?_⟩
      cases i with
      | zero => simp at hi hu; subst hi hu; exact ofV1_ok hx
      | succ i => simp at hi hu; exact h2 i y u hi hu
    · cases h

theorem ofVal_ok {c H} (v : Value) : RA w c H (ofVal v) v := by
  unfold ofVal
  split
  · rename_i x hx
    cases v with
    | agg cs =>
      simp only [ofV, Option.map_eq_some_iff] at hx
      obtain ⟨l, hl, rfl⟩ := hx
      obtain ⟨h1, h2⟩ := ofVs_ok (w := w) (M := c.M H) hl
      refine .t _ _ (.agg l cs (by simpa using h1) (fun i y hi => ?_) (fun i y u hi hu => h2 i y u hi (by simpa using hu)))
      have hlt := lt_of_getElem? hi
      have e : cs.toList[i]? = some (cs.toList[i]'(by omega)) := List.getElem?_eq_getElem _
      have hone : ∀ {vs : List Value} {l : List T}, ofVs vs = some l → ∀ (i : Nat) y, l[i]? = some y → y.one = true := by
        intro vs
        induction vs with
        | nil => intro l h; simp [ofVs] at h; subst h; simp
        | cons v r ih =>
          intro l h
          simp only [ofVs] at h
          split at h
          · rename_i x l' hx' hl'
            cases h
            intro i y hi
            cases i with
            | zero =>
              simp at hi; subst hi
              unfold ofV1 at hx'
              split at hx' <;> first | (cases hx'; rfl) | cases hx'
            | succ i => simp at hi; exact ih hl' i y hi
          · cases h
      exact hone hl i y hi
    | _ => exact .t _ _ (ofV1_ok hx)
  · exact .junk v

theorem run_zero {tab : Tab} (hT : TabOK P tab) {t : TypeId} {y : TyI} (hy : tab t = some y) {zs : List T} (hz : y.zero = some zs) :
    ∃ z : Value, (zeroValue t).run P w = .ok z w ∧ ofVs z.cells.toList = some zs ∧ ∃ i, P.info? t = some i ∧ i.zero = some z ∧ i.size = y.size ∧ i.bytes = y.bytes := by
  obtain ⟨i, hi, hs, hb, hz'⟩ := (hT t y hy).info
  obtain ⟨z, hz1, hz2⟩ := hz' zs hz
  exact ⟨z, by simp [zeroValue, typeInfo, hi, hz1], hz2, i, hi, hz1, hs, hb⟩

/-- A value that goes into a variable of its own. -/
theorem newVar_ok {c H B} (hs : HS w c H B) (e : TypeId) {x : AV} {v : Value} (hx : RA w c H x v) (h1 : x.cells.all AV.one = true) :
    RA (w.alloc (.cells v.cells e)) (c.new H.length w.heap.size) (H ++ [.box x.cells]) (.ptr H.length 0 0 0) (.pointer (some ⟨w.heap.size, 0, none⟩)) ∧
    HS (w.alloc (.cells v.cells e)) (c.new H.length w.heap.size) (H ++ [.box x.cells]) B ∧
    Ev w c H (w.alloc (.cells v.cells e)) (c.new H.length w.heap.size) (H ++ [.box x.cells]) ∧ Below B w (w.alloc (.cells v.cells e)) := by
  obtain ⟨cl, cr⟩ := hx.cells h1
  exact ⟨.ptr _ _ _ _ _ _ (new_at (w := w) (c := c) _).1 ⟨_, (new_at (.box x.cells)).2, rfl⟩, new_box hs e x.cells v.cells cl.symm cr, ev_new hs _ _, below_new hs.hB _⟩

theorem xbox_ok {c H B x v} {K : AV → AH → Prop} (hs : HS w c H B) (e : TypeId) (hx : RA w c H x v) (h1 : x.cells.all AV.one = true) (k : K (.ptr H.length 0 0 0) (H ++ [.box x.cells])) :
    MOut P (Instr.box e v) w c H B K := by
  obtain ⟨r, h, ev, b⟩ := newVar_ok hs e hx h1
  exact ⟨_, _, _, _, _, by simp [Instr.box, newVar, newRow], r, h, ev, b, k⟩

theorem agg_of_zero {c H} {z : Value} {zs : List T} (h : ofVs z.cells.toList = some zs) (h1 : zs.all T.one = true) : RA w c H (.agg (zs.map .t)) (.agg z.cells) := by
  obtain ⟨k1, k2⟩ := ofVs_ok (w := w) (M := c.M H) h
  refine .agg _ _ (by simpa using k1) (fun i x hi => ?_) (fun i x v hi hv => ?_)
  · simp only [List.getElem?_map, Option.map_eq_some_iff] at hi
    obtain ⟨y, hy, rfl⟩ := hi
    rw [List.all_eq_true] at h1
    exact h1 y (List.mem_of_getElem? hy)
  · simp only [List.getElem?_map, Option.map_eq_some_iff] at hi
    obtain ⟨y, hy, rfl⟩ := hi
    exact .t _ _ (k2 i y v hy (by simpa using hv))

theorem xalloc_ok {tab : Tab} (hT : TabOK P tab) {t : TypeId} {y : TyI} (hy : tab t = some y) {zs : List T} (hz : y.zero = some zs) (h1 : zs.all T.one = true) {c H B} {K : AV → AH → Prop} (hs : HS w c H B)
    (k : K (.ptr H.length 0 0 0) (H ++ [.box (zs.map .t)])) (old : Value) : MOut P (Instr.alloc t true old) w c H B K := by
  obtain ⟨z, r, hz, _⟩ := run_zero (w := w) hT hy hz
  have ha := agg_of_zero (w := w) (c := c) (H := H) hz h1
  have hall : (AV.agg (zs.map .t)).cells.all AV.one = true := by simp only [AV.cells, List.all_map]; exact h1
  obtain ⟨r1, h, ev, b⟩ := newVar_ok hs t ha hall
  refine ⟨_, _, _, _, _, ?_, r1, h, ev, b, k⟩
  simp [Instr.alloc, r, newVar, newRow]
  rfl

/-! ### Through a string -/

theorem xrange_ok {tab : Tab} (hT : TabOK P tab) {t : TypeId} {c H B x v} {K : AV → AH → Prop} (hs : HS w c H B) (h : xrange tab t x H K) (hx : RA w c H x v) : MOut P (Instr.range t v) w c H B K := by
  unfold xrange at h
  rw [opt_iff] at h
  obtain ⟨y, hy, h⟩ := h
  have hd := (hT t y hy).d
  split at h
  · rename_i s he
    rw [he] at hd
    cases hx with | t _ _ hx =>
    cases hx with | str bs =>
    exact ⟨_, _, w.alloc (.stringIter bs 0), _, _, run_range_string w t bs hd, .ptr _ _ _ _ _ _ (new_at (w := w) (c := c) (.iter bs.data.toList 0)).1 ⟨_, (new_at (.iter bs.data.toList 0)).2, rfl⟩, new_iter hs bs 0, ev_new hs _ _, below_new hs.hB _, h⟩
  · exact h.elim

theorem xnext_ok {c H B x v st} {K : AV → AH → Prop} (hs : HS w c H B) (h : xnext x st H K) (hx : RA w c H x v) (ty : TypeId) : MOut P (Instr.next v st ty) w c H B K := by
  unfold xnext at h
  split at h
  · rename_i b g i o
    cases hx with | ptr _ _ _ _ _ blk hb hm hv =>
    rw [hb] at h
    cases blk with
    | dead => exact h.elim
    | box => exact h.elim
    | arr => exact h.elim
    | iter s p =>
      simp only at h
      rw [ck_iff] at h
      obtain ⟨hc, h⟩ := h
      simp only [Bool.and_eq_true] at hc
      obtain ⟨rfl, ho⟩ := hc
      have ho := Nat.eq_of_beq_eq_true ho
      subst ho
      obtain ⟨cb, hg, rfl⟩ := hm
      obtain ⟨bs, h1, rfl⟩ := hs.iter b cb s p hb hg
      split at h
      · rename_i ch hch
        rw [ck_iff] at h
        obtain ⟨ha, h⟩ := h
        have ha : ch.toNat < 128 := by simpa [Nat.blt_eq] using ha
        have hp : p < bs.size := lt_of_getElem? hch
        have hch' : bs[p]'hp = ch := by
          rw [List.getElem?_eq_getElem hp] at hch
          exact Option.some.inj hch
        obtain ⟨ev, hs', bel⟩ := set_iter hs hb hg h1 rfl (p + 1)
        refine ⟨_, .tuple #[.bool true, .int .i64 p, .int .i32 ch.toNat], _, _, _, ?_, ?_, hs', ev, bel, h⟩
        · simp only [Instr.next, getObj, setObj, Sem.run_bind, Sem.run, h1, Result.andThen, hp, if_true, decode_ascii bs p hp (by rw [hch']; exact ha), hch']
          simp [goInt, Sem.run, h1]
        · refine .tup _ _ rfl (fun i x v hi hv => ?_)
          match i, hi, hv with
          | 0, hi, hv => simp at hi hv; subst hi hv; exact .t _ _ (.bool _)
          | 1, hi, hv => simp at hi hv; subst hi hv; exact .t _ _ (.int _ _)
          | 2, hi, hv => simp at hi hv; subst hi hv; exact .t _ _ (.int _ _)
          | i + 3, hi, hv => simp at hi
      · rename_i hch
        have hp : ¬ p < bs.size := fun hp => by
          rw [List.getElem?_eq_getElem hp] at hch
          cases hch
        refine ⟨_, .tuple #[.bool false], w, c, H, ?_, ?_, hs, Ev.refl _ _ _, Below.refl _ _, h⟩
        · simp [Instr.next, getObj, Sem.run, h1, hp]
        · refine .tup _ _ rfl (fun i x v hi hv => ?_)
          match i, hi, hv with
          | 0, hi, hv => simp at hi hv; subst hi hv; exact .t _ _ (.bool _)
          | i + 1, hi, hv => simp at hi
  · exact h.elim

/-! ### Literals -/

theorem foldl_set_size (o : Nat) : ∀ (l : List (Value × Nat)) (cs : Array Value), (l.foldl (fun cs p => cs.setIfInBounds (o + p.2) p.1) cs).size = cs.size
  | [], cs => rfl
  | p :: r, cs => by simp [foldl_set_size o r]

theorem foldl_set_get (o : Nat) : ∀ (vs : List Value) (n : Nat) (cs : Array Value) (i : Nat), o + n + vs.length ≤ cs.size →
    ((vs.zipIdx n).foldl (fun cs (p : Value × Nat) => cs.setIfInBounds (o + p.2) p.1) cs)[i]? = if o + n ≤ i ∧ i < o + n + vs.length then vs[i - (o + n)]? else cs[i]?
  | [], n, cs, i, _ => by simp; intro h1 h2; omega
  | v :: r, n, cs, i, h => by
    simp only [List.zipIdx_cons, List.foldl_cons, List.length_cons] at h ⊢
    rw [foldl_set_get o r (n + 1) _ i (by simp; omega)]
    by_cases h1 : i = o + n
    · subst h1
      rw [if_neg (by omega), if_pos (by omega), Array.getElem?_setIfInBounds_self_of_lt (by omega)]
      simp
    · by_cases h2 : o + (n + 1) ≤ i ∧ i < o + (n + 1) + r.length
      · rw [if_pos h2, if_pos (by omega), show i - (o + n) = (i - (o + (n + 1))) + 1 by omega, List.getElem?_cons_succ]
      · rw [if_neg h2, if_neg (by omega), Array.getElem?_setIfInBounds_ne (by omega)]

/-- What a part does to the cells. -/
def put1 (cells : Array Value) (off : Nat) (v : Value) : Array Value := v.cells.zipIdx.foldl (fun cs (c, j) => cs.setIfInBounds (off + j) c) cells

theorem put1_size (cells : Array Value) (off : Nat) (v : Value) : (put1 cells off v).size = cells.size := by
  unfold put1
  rw [← Array.foldl_toList]
  exact foldl_set_size off _ cells

theorem put1_get (cells : Array Value) (off : Nat) (v : Value) (h : off + v.cells.size ≤ cells.size) (i : Nat) :
    (put1 cells off v)[i]? = if off ≤ i ∧ i < off + v.cells.size then v.cells[i - off]? else cells[i]? := by
  unfold put1
  rw [← Array.foldl_toList]
  have := foldl_set_get off v.cells.toList 0 cells i (by simpa using h)
  simpa using this

theorem fill_cons {place : Nat → Option (Nat × Nat)} {cells : Array Value} {k : Nat} {v : Value} {r : List (Nat × Value)} {off size : Nat} (hp : place k = some (off, size)) (hs : v.cells.size = size) (hf : off + v.cells.size ≤ cells.size) :
    Instr.fill place cells ((k, v) :: r) = Instr.fill place (put1 cells off v) r := by
  have h2 : ¬ off + v.cells.size > cells.size := by omega
  simp [Instr.fill, hp, hs, put1]
  intro h; omega

theorem RA.put {c H} {cells : List AV} {arr : Array Value} (ha : RA w c H (.agg cells) (.agg arr)) {x : AV} {v : Value} (hx : RA w c H x v) (h1 : x.cells.all AV.one = true) {off : Nat} (hf : off + x.cells.length ≤ cells.length) :
    RA w c H (.agg (setAt cells off x.cells)) (.agg (put1 arr off v)) := by
  obtain ⟨cl, cr⟩ := hx.cells h1
  cases ha with
  | agg _ _ hl h2 hr =>
    refine .agg _ _ (by rw [setAt_length, put1_size]; exact hl) (fun i y hi => ?_) (fun i y u hi hu => ?_)
    · rw [setAt_get _ _ _ _ hf] at hi
      split at hi
      · obtain ⟨u, hu⟩ := arr_get (a := v.cells) (i := i - off) (by have := lt_of_getElem? hi; omega)
        exact (cr _ y u hi hu).1
      · exact h2 i y hi
    · rw [setAt_get _ _ _ _ hf] at hi
      rw [put1_get _ _ _ (by omega)] at hu
      by_cases hin : off ≤ i ∧ i < off + x.cells.length
      · rw [if_pos hin] at hi
        rw [if_pos (by omega)] at hu
        exact (cr _ y u hi hu).2.1
      · rw [if_neg hin] at hi
        rw [if_neg (by omega)] at hu
        exact hr i y u hi hu

/-- The parts of a literal, as the walk and as the model have them. -/
inductive RParts (w : World) (c : Cx) (H : AH) : List (Nat × AV) → List (Nat × Value) → Prop
  | nil : RParts w c H [] []
  | cons (k x v r s) (h : RA w c H x v) (t : RParts w c H r s) : RParts w c H ((k, x) :: r) ((k, v) :: s)

theorem xfill_ok {c H} {place : Nat → Option (Nat × Nat)} {parts : List (Nat × AV)} {vs : List (Nat × Value)} (hp : RParts w c H parts vs) : ∀ {cells : List AV} {arr : Array Value} {K : AV → Prop},
    RA w c H (.agg cells) (.agg arr) → xfill place cells parts K → ∃ x r, Instr.fill place arr vs = some r ∧ RA w c H x (.agg r) ∧ K x := by
  induction hp with
  | nil => intro cells arr K ha h; exact ⟨_, arr, rfl, ha, h⟩
  | cons k x v r s hx ht ih =>
    intro cells arr K ha h
    simp only [xfill] at h
    rw [opt_iff] at h
    obtain ⟨p, hpl, h⟩ := h
    rw [ck_iff] at h
    obtain ⟨hc, h⟩ := h
    simp only [Bool.and_eq_true] at hc
    have c1 := Nat.eq_of_beq_eq_true hc.1.1
    have c2 := Nat.le_of_ble_eq_true hc.1.2
    obtain ⟨cl, cr⟩ := hx.cells hc.2
    have hal : cells.length = arr.size := by cases ha with | agg _ _ hl _ _ => exact hl
    obtain ⟨y, q, h1, h2, h3⟩ := ih (ha.put hx hc.2 c2) h
    exact ⟨y, q, by rw [fill_cons (off := p.1) (size := p.2) hpl (by omega) (by omega)]; exact h1, h2, h3⟩

theorem run_mapM_sizes {tab : Tab} (hT : TabOK P tab) (fs : List Field) (h : ∀ f ∈ fs, (tab f.type).isSome = true) :
    (fs.mapM fun f => (do pure (f.offset, ← sizeOf f.type) : Sem (Nat × Nat))).run P w = .ok (fs.map fun f => (f.offset, ((tab f.type).map (·.size)).getD 0)) w := by
  induction fs with
  | nil => simp
  | cons f r ih =>
    have ih' := ih (fun g hg => h g (by simp [hg]))
    obtain ⟨y, hy⟩ := Option.isSome_iff_exists.1 (h f (by simp))
    simp only [List.mapM_cons, Sem.run_bind, run_sizeOf hT hy, Result.andThen_ok, Sem.run_pure, ih', List.map_cons, hy]
    rfl

theorem xbuild_ok {tab : Tab} (hT : TabOK P tab) {t : TypeId} {c H} {parts : List (Nat × AV)} {vs : Array (Nat × Value)} {K : AV → Prop} (hp : RParts w c H parts vs.toList) (h : xbuild tab t parts K) :
    ∃ x val, (Instr.build t vs).run P w = .ok val w ∧ RA w c H x val ∧ K x := by
  unfold xbuild at h
  rw [opt_iff] at h
  obtain ⟨y, hy, h⟩ := h
  rw [opt_iff] at h
  obtain ⟨zs, hz, h⟩ := h
  rw [ck_iff] at h
  obtain ⟨h1, h⟩ := h
  obtain ⟨z, r, hz, _⟩ := run_zero (w := w) hT hy hz
  have ha := agg_of_zero (w := w) (c := c) (H := H) hz h1
  have hd := (hT t y hy).d
  split at h
  · rename_i fs hfs
    rw [hfs] at hd
    rw [ck_iff] at h
    obtain ⟨hall, h⟩ := h
    rw [List.all_eq_true] at hall
    have hm := run_mapM_sizes (w := w) hT fs.toList hall
    have hplace : (fun k => fs[k]?.bind fun f => (tab f.type).map fun z => (f.offset, z.size)) = fun (k : Nat) => (fs.toList.map fun f => (f.offset, ((tab f.type).map (·.size)).getD 0)).toArray[k]? := by
      funext k
      simp only [List.getElem?_toArray, List.getElem?_map, Array.getElem?_toList]
      cases hk : fs[k]? with
      | none => rfl
      | some f =>
        obtain ⟨q, hq⟩ := Option.isSome_iff_exists.1 (hall f (by rw [Array.mem_toList_iff]; exact Array.mem_of_getElem? hk))
        simp [hq]
    obtain ⟨x, q, e1, e2, k⟩ := xfill_ok hp ha h
    refine ⟨x, .agg q, ?_, e2, k⟩
    rw [hplace] at e1
    have hm' : (fs.mapM fun f => (do pure (f.offset, ← sizeOf f.type) : Sem (Nat × Nat))).run P w = .ok (fs.toList.map fun f => (f.offset, ((tab f.type).map (·.size)).getD 0)).toArray w := by
      rw [Array.mapM_eq_mapM_toList]
      simp only [Sem.run_map, hm, Result.andThen_ok]
    simp only [Instr.build, Sem.run_bind, r, Result.andThen_ok, run_underlying hd, hm']
    rw [e1]
    rfl
  · rename_i n e hae
    rw [hae] at hd
    rw [opt_iff] at h
    obtain ⟨q, hq, h⟩ := h
    obtain ⟨x, u, e1, e2, k⟩ := xfill_ok hp ha h
    refine ⟨x, .agg u, ?_, e2, k⟩
    simp only [Instr.build, Sem.run_bind, r, Result.andThen_ok, run_underlying hd, run_sizeOf hT hq]
    rw [e1]
    rfl
  · exact h.elim

end
end Go.Proofs.YthpkehhghcpolaaDoor
