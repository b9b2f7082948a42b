/-
  Writing: a store into a block of the walk's own, an append to a row of the walk's own.
-/
import Derived.Test.YthpkehhghcpolaaDoorHeap
import Derived.Laws.CopyRow
namespace Go.Proofs.YthpkehhghcpolaaDoor
open Go.RowKit
set_option linter.unusedVariables false
set_option linter.unusedSimpArgs false

/-- A world with the same memory. -/
theorem ev_same {w w' : World} (h : w'.heap = w.heap) (c : Cx) (H : AH) : Ev w c H w' c H := by
  refine ⟨rfl, by rw [h]; exact Nat.le_refl _, fun b blk hb => ⟨blk, hb, ?_⟩, fun _ h => .inl h, fun _ _ _ => by rw [h], fun _ _ _ _ h => h⟩
  cases blk with
  | dead => trivial
  | box cs => exact ⟨rfl, fun _ h => h⟩
  | iter s p => exact ⟨rfl, fun _ h => h⟩
  | arr => exact ⟨rfl, rfl, rfl, Nat.le_refl _, Nat.le_refl _, fun _ => ⟨rfl, fun cb hc => ⟨hc, by simp only [rowSize, h]⟩⟩⟩

theorem HS.same {w w' : World} {c H B} (hs : HS w c H B) (h : w'.heap = w.heap) : HS w' c H B := by
  refine hs.keep (ev_same h c H) hs.inj (fun b cb hg => by rw [h]; exact hs.base b cb hg) hs.dom (fun b cb cells hb hg => .inl ⟨hb, hg, by rw [h]⟩) (fun b cb e s z g l hb hg => .inl ⟨hb, hg, by rw [h]⟩) (fun b cb s p hb hg => .inl ⟨hb, hg, by rw [h]⟩)

theorem below_drew {w : World} {B : Nat} : Below B w w.drew := (Below.refl B w).drew

/-- A block of the walk's own is written in its place. -/
theorem upd {w : World} {c : Cx} {H : AH} {B : Nat} (hs : HS w c H B) {b cb : Nat} {blk blk' : Blk} (hb : H[b]? = some blk) (hl : blk.live = true) (hg : c.G b = some cb)
    {arr arr' : Array Value} {e : TypeId} (hc : w.heap[cb]? = some (.cells arr e (0, 0))) (hsz : arr'.size = arr.size)
    (goes : Blk.goes w c (w.setRow cb arr') c b blk blk') : Ev w c H (w.setRow cb arr') c (H.set b blk') := by
  have hlt := lt_of_getElem? hb
  refine ⟨rfl, by simp, fun i bk hi => ?_, fun k hm => ?_, fun k _ hm => setRow_other w cb k arr' (fun e => hm (.inr ⟨b, blk, hb, hl, by rw [e]; exact hg⟩)), fun _ _ _ _ h => h⟩
  · by_cases h : b = i
    · subst h
      rw [hb] at hi
      cases hi
      exact ⟨blk', by simp [hlt], goes⟩
    · refine ⟨bk, by rw [List.getElem?_set_ne h]; exact hi, ?_⟩
      cases bk with
      | dead => trivial
      | box cs => exact ⟨rfl, fun _ h => h⟩
      | iter s p => exact ⟨rfl, fun _ h => h⟩
      | arr =>
        refine ⟨rfl, rfl, rfl, Nat.le_refl _, Nat.le_refl _, fun _ => ⟨rfl, fun cb' hc' => ⟨hc', ?_⟩⟩⟩
        have hne : cb' ≠ cb := fun e => h (hs.inj b i cb hg (by rw [← e]; exact hc'))
        simp only [rowSize, setRow_other w cb cb' arr' hne]
  · rcases hm with hm | ⟨i, bk, hi, hlv, hgi⟩
    · exact .inl (.inl hm)
    · by_cases h : b = i
      · subst h
        rw [hgi] at hg; cases hg
        exact .inl (.inr ⟨b, blk, hb, hl, hgi⟩)
      · rw [List.getElem?_set_ne h] at hi
        exact .inl (.inr ⟨i, bk, hi, hlv, hgi⟩)

theorem set_box {w : World} {c : Cx} {H : AH} {B : Nat} (hs : HS w c H B) {b cb : Nat} {cells cells' : List AV} (hb : H[b]? = some (.box cells)) (hg : c.G b = some cb)
    {arr arr' : Array Value} {e : TypeId} (hc : w.heap[cb]? = some (.cells arr e (0, 0))) (hsz : arr'.size = arr.size) (hsa : arr.size = cells.length) (hcl : cells'.length = cells.length)
    (hn : ∀ (j : Nat) x v, cells'[j]? = some x → arr'[j]? = some v → x.one = true ∧ RA w c H x v ∧ v.oneCell' = true) :
    Ev w c H (w.setRow cb arr') c (H.set b (.box cells')) ∧ HS (w.setRow cb arr') c (H.set b (.box cells')) B := by
  have ev : Ev w c H (w.setRow cb arr') c (H.set b (.box cells')) := upd hs hb rfl hg hc hsz ⟨hcl.symm, fun _ h => h⟩
  have hlt := lt_of_getElem? hb
  refine ⟨ev, hs.keep ev hs.inj (fun b cb h => by simp; exact hs.base b cb h) (fun b cb h => by simp; exact hs.dom b cb h) (fun i k cs hi hgi => ?_) (fun i k e s z g l hi hgi => ?_) (fun i k s p hi hgi => ?_)⟩
  · by_cases h : b = i
    · subst h
      rw [hgi] at hg; cases hg
      simp [hlt] at hi
      subst hi
      exact .inr ⟨arr', e, setRow_heap w _ arr arr' e _ hc, by omega, fun j x v hj hv => ⟨(hn j x v hj hv).1, (hn j x v hj hv).2.1.ev ev, (hn j x v hj hv).2.2⟩⟩
    · rw [List.getElem?_set_ne h] at hi
      exact .inl ⟨hi, hgi, setRow_other w cb k arr' (fun e => h (hs.inj b i cb hg (by rw [← e]; exact hgi)))⟩
  · by_cases h : b = i
    · subst h; simp [hlt] at hi
    · rw [List.getElem?_set_ne h] at hi
      exact .inl ⟨hi, hgi, setRow_other w cb k arr' (fun e => h (hs.inj b i cb hg (by rw [← e]; exact hgi)))⟩
  · by_cases h : b = i
    · subst h; simp [hlt] at hi
    · rw [List.getElem?_set_ne h] at hi
      exact .inl ⟨hi, hgi, setRow_other w cb k arr' (fun e => h (hs.inj b i cb hg (by rw [← e]; exact hgi)))⟩

theorem set_arr {w : World} {c : Cx} {H : AH} {B : Nat} (hs : HS w c H B) {b cb e s g g' cap : Nat} {z : Bool} {l l' : Sq} (hb : H[b]? = some (.arr e s z g l)) (hg : c.G b = some cb)
    {arr arr' : Array Value} (hc : w.heap[cb]? = some (.cells arr e (0, 0))) (hsz : arr'.size = arr.size) (hsa : arr.size = cap * s) (hcap : l'.length ≤ cap ∧ (g' % 2 = 1 → l'.length = cap)) (hm : cap ≤ maxLen)
    (hgg : g ≤ g') (hl0 : l.length ≤ l'.length) (hgl : g = g' → l'.length = l.length)
    (hn : Rowed w c H s l' arr') :
    Ev w c H (w.setRow cb arr') c (H.set b (.arr e s z g' l')) ∧ HS (w.setRow cb arr') c (H.set b (.arr e s z g' l')) B := by
  have ev : Ev w c H (w.setRow cb arr') c (H.set b (.arr e s z g' l')) := upd hs hb rfl hg hc hsz
    ⟨rfl, rfl, rfl, hl0, hgg, fun h => ⟨hgl h, fun k hk => ⟨hk, by rw [hk] at hg; cases hg; simp only [rowSize, setRow_heap w cb arr arr' e _ hc, hc, hsz]⟩⟩⟩
  have hlt := lt_of_getElem? hb
  refine ⟨ev, hs.keep ev hs.inj (fun b cb h => by simp; exact hs.base b cb h) (fun b cb h => by simp; exact hs.dom b cb h) (fun i k cs hi hgi => ?_) (fun i k e s z g l hi hgi => ?_) (fun i k s p hi hgi => ?_)⟩
  · by_cases h : b = i
    · subst h; simp [hlt] at hi
    · rw [List.getElem?_set_ne h] at hi
      exact .inl ⟨hi, hgi, setRow_other w cb k arr' (fun e => h (hs.inj b i cb hg (by rw [← e]; exact hgi)))⟩
  · by_cases h : b = i
    · subst h
      rw [hgi] at hg; cases hg
      simp [hlt] at hi
      obtain ⟨rfl, rfl, rfl, rfl, rfl⟩ := hi
      refine .inr ⟨arr', cap, setRow_heap w _ arr arr' _ _ hc, by omega, hcap, hm, fun i x hi => ⟨(hn i x hi).1, fun j y hj => ?_⟩⟩
      obtain ⟨v, b1, b2, b3, b4⟩ := (hn i x hi).2 j y hj
      exact ⟨v, b1, b2, b3.ev ev, b4⟩
    · rw [List.getElem?_set_ne h] at hi
      exact .inl ⟨hi, hgi, setRow_other w cb k arr' (fun e => h (hs.inj b i cb hg (by rw [← e]; exact hgi)))⟩
  · by_cases h : b = i
    · subst h; simp [hlt] at hi
    · rw [List.getElem?_set_ne h] at hi
      exact .inl ⟨hi, hgi, setRow_other w cb k arr' (fun e => h (hs.inj b i cb hg (by rw [← e]; exact hgi)))⟩

/-- A row of the walk's own goes on in a new block. -/
theorem move_arr {w : World} {c : Cx} {H : AH} {B : Nat} (hs : HS w c H B) {b e s g g' cap : Nat} {z : Bool} {l l' : Sq} (hb : H[b]? = some (.arr e s z g l))
    (arr' : Array Value) (hsa : arr'.size = cap * s) (hcap : l'.length ≤ cap ∧ (g' % 2 = 1 → l'.length = cap)) (hm : cap ≤ maxLen) (hl0 : l.length ≤ l'.length) (hgb : Blk.fix (.arr e s z g l) = true → c.G b ≠ none) (hgg : g < g')
    (hn : Rowed w c H s l' arr') :
    Ev w c H (w.drew.alloc (.cells arr' e)) (c.new b w.heap.size) (H.set b (.arr e s z g' l')) ∧
    HS (w.drew.alloc (.cells arr' e)) (c.new b w.heap.size) (H.set b (.arr e s z g' l')) B := by
  have hlt := lt_of_getElem? hb
  have hold : ∀ k, k < w.heap.size → (w.drew.alloc (.cells arr' e)).heap[k]? = w.heap[k]? := fun k hk => heap_alloc_old w.drew _ k hk
  have hnew : (w.drew.alloc (.cells arr' e)).heap[w.heap.size]? = some (.cells arr' e) := heap_alloc_new w.drew _
  have ev : Ev w c H (w.drew.alloc (.cells arr' e)) (c.new b w.heap.size) (H.set b (.arr e s z g' l')) := by
    refine ⟨rfl, by simp, fun i bk hi => ?_, fun k hm => ?_, fun k hk _ => hold k hk, fun i bk hi hbk hg => ?_⟩
    · by_cases h : b = i
      · subst h
        rw [hb] at hi; cases hi
        exact ⟨.arr e s z g' l', by simp [hlt], rfl, rfl, rfl, hl0, by omega, fun he => by omega⟩
      · refine ⟨bk, by rw [List.getElem?_set_ne h]; exact hi, ?_⟩
        cases bk with
        | dead => trivial
        | box cs => exact ⟨rfl, fun cb hc => by simp only [Cx.new, if_neg (Ne.symm h)]; exact hc⟩
        | iter s p => exact ⟨rfl, fun cb hc => by simp only [Cx.new, if_neg (Ne.symm h)]; exact hc⟩
        | arr =>
          refine ⟨rfl, rfl, rfl, Nat.le_refl _, Nat.le_refl _, fun _ => ⟨rfl, fun cb hc => ⟨by simp only [Cx.new, if_neg (Ne.symm h)]; exact hc, ?_⟩⟩⟩
          simp only [rowSize, hold cb (hs.base _ _ hc).2]
    · rcases hm with hm | ⟨i, bk, hi, hl, hgi⟩
      · exact .inl (.inl hm)
      · simp only [Cx.new] at hgi
        split at hgi
        · exact .inr (by simp at hgi; omega)
        · rename_i h
          rw [List.getElem?_set_ne (Ne.symm h)] at hi
          exact .inl (.inr ⟨i, bk, hi, hl, hgi⟩)
    · have hne : i ≠ b := fun e => by subst e; rw [hb] at hi; cases hi; exact hgb hbk hg
      simp only [Cx.new, if_neg hne]; exact hg
  refine ⟨ev, hs.keep ev (fun i i' cb h h' => ?_) (fun i cb h => ?_) (fun i cb h => ?_) (fun i k cs hi hgi => ?_) (fun i k e1 s1 z1 g1 l1 hi hgi => ?_) (fun i k s1 p1 hi hgi => ?_)⟩
  · simp only [Cx.new] at h h'
    split at h <;> split at h'
    · omega
    · have := (hs.base i' cb h').2; simp at h; omega
    · have := (hs.base i cb h).2; simp at h'; omega
    · exact hs.inj i i' cb h h'
  · simp only [Cx.new] at h
    split at h
    · simp at h; subst h; exact ⟨hs.hB, by simp⟩
    · have := hs.base i cb h; exact ⟨this.1, by simp; omega⟩
  · simp only [Cx.new] at h
    split at h
    · simp; omega
    · have := hs.dom i cb h; simp; omega
  · by_cases h : b = i
    · subst h; simp [hlt] at hi
    · rw [List.getElem?_set_ne h] at hi
      simp only [Cx.new, if_neg (Ne.symm h)] at hgi
      exact .inl ⟨hi, hgi, hold k (hs.base _ _ hgi).2⟩
  · by_cases h : b = i
    · subst h
      simp only [Cx.new, if_true] at hgi
      simp at hgi
      subst hgi
      simp [hlt] at hi
      obtain ⟨rfl, rfl, rfl, rfl, rfl⟩ := hi
      refine .inr ⟨arr', cap, hnew, hsa, hcap, hm, fun i x hi => ⟨(hn i x hi).1, fun j y hj => ?_⟩⟩
      obtain ⟨v, b1, b2, b3, b4⟩ := (hn i x hi).2 j y hj
      exact ⟨v, b1, b2, b3.ev ev, b4⟩
    · rw [List.getElem?_set_ne h] at hi
      simp only [Cx.new, if_neg (Ne.symm h)] at hgi
      exact .inl ⟨hi, hgi, hold k (hs.base _ _ hgi).2⟩
  · by_cases h : b = i
    · subst h; simp [hlt] at hi
    · rw [List.getElem?_set_ne h] at hi
      simp only [Cx.new, if_neg (Ne.symm h)] at hgi
      exact .inl ⟨hi, hgi, hold k (hs.base _ _ hgi).2⟩

/-- A walk through a string goes on. -/
theorem set_iter {w : World} {c : Cx} {H : AH} {B : Nat} (hs : HS w c H B) {b cb : Nat} {s : List UInt8} {p : Nat} (hb : H[b]? = some (.iter s p)) (hg : c.G b = some cb)
    {bs : ByteArray} (hc : w.heap[cb]? = some (.stringIter bs p)) (hbs : bs.data.toList = s) (q : Nat) :
    Ev w c H { w with heap := w.heap.setIfInBounds cb (.stringIter bs q) } c (H.set b (.iter s q)) ∧ HS { w with heap := w.heap.setIfInBounds cb (.stringIter bs q) } c (H.set b (.iter s q)) B ∧ Below B w { w with heap := w.heap.setIfInBounds cb (.stringIter bs q) } := by
  have hlt := lt_of_getElem? hb
  have hbase := hs.base b cb hg
  have other : ∀ k, k ≠ cb → ({ w with heap := w.heap.setIfInBounds cb (.stringIter bs q) } : World).heap[k]? = w.heap[k]? := fun k hk => by
    show (w.heap.setIfInBounds cb _)[k]? = _
    rw [Array.getElem?_setIfInBounds]
    simp [Ne.symm hk]
  have here : ({ w with heap := w.heap.setIfInBounds cb (.stringIter bs q) } : World).heap[cb]? = some (.stringIter bs q) := by
    show (w.heap.setIfInBounds cb _)[cb]? = _
    rw [Array.getElem?_setIfInBounds]
    simp [hbase.2]
  have size : ({ w with heap := w.heap.setIfInBounds cb (.stringIter bs q) } : World).heap.size = w.heap.size := by simp
  have ev : Ev w c H { w with heap := w.heap.setIfInBounds cb (.stringIter bs q) } c (H.set b (.iter s q)) := by
    refine ⟨rfl, by rw [size]; exact Nat.le_refl _, fun i bk hi => ?_, fun k hm => ?_, fun k _ hm => other k (fun e => hm (.inr ⟨b, _, hb, rfl, by rw [e]; exact hg⟩)), fun _ _ _ _ h => h⟩
    · by_cases h : b = i
      · subst h
        rw [hb] at hi
        cases hi
        exact ⟨.iter s q, by simp [hlt], rfl, fun _ h => h⟩
      · refine ⟨bk, by rw [List.getElem?_set_ne h]; exact hi, ?_⟩
        cases bk with
        | dead => trivial
        | box cs => exact ⟨rfl, fun _ h => h⟩
        | iter s p => exact ⟨rfl, fun _ h => h⟩
        | arr =>
          refine ⟨rfl, rfl, rfl, Nat.le_refl _, Nat.le_refl _, fun _ => ⟨rfl, fun cb' hc' => ⟨hc', ?_⟩⟩⟩
          have hne : cb' ≠ cb := fun e => h (hs.inj b i cb hg (by rw [← e]; exact hc'))
          simp only [rowSize, other cb' hne]
    · rcases hm with hm | ⟨i, bk, hi, hlv, hgi⟩
      · exact .inl (.inl hm)
      · by_cases h : b = i
        · subst h
          rw [hgi] at hg; cases hg
          exact .inl (.inr ⟨b, _, hb, rfl, hgi⟩)
        · rw [List.getElem?_set_ne h] at hi
          exact .inl (.inr ⟨i, bk, hi, hlv, hgi⟩)
  refine ⟨ev, hs.keep ev hs.inj (fun b cb h => by rw [size]; exact hs.base b cb h) (fun b cb h => by simp; exact hs.dom b cb h) (fun i k cs hi hgi => ?_) (fun i k e s z g l hi hgi => ?_) (fun i k s p hi hgi => ?_), ?_⟩
  · by_cases h : b = i
    · subst h; simp [hlt] at hi
    · rw [List.getElem?_set_ne h] at hi
      exact .inl ⟨hi, hgi, other k (fun e => h (hs.inj b i cb hg (by rw [← e]; exact hgi)))⟩
  · by_cases h : b = i
    · subst h; simp [hlt] at hi
    · rw [List.getElem?_set_ne h] at hi
      exact .inl ⟨hi, hgi, other k (fun e => h (hs.inj b i cb hg (by rw [← e]; exact hgi)))⟩
  · by_cases h : b = i
    · subst h
      rw [hgi] at hg; cases hg
      simp [hlt] at hi
      obtain ⟨rfl, rfl⟩ := hi
      exact .inr ⟨bs, here, hbs⟩
    · rw [List.getElem?_set_ne h] at hi
      exact .inl ⟨hi, hgi, other k (fun e => h (hs.inj b i cb hg (by rw [← e]; exact hgi)))⟩
  · exact ⟨rfl, rfl, rfl, by rw [size]; exact Nat.le_refl _, fun k hk => other k (by have := hbase.1; omega)⟩

/-! ### append, as the model runs it -/

section
variable {P : Program} (w : World)

/-- What is appended is read so, whatever has been drawn. -/
structure Reads (P : Program) (w : World) (size n : Nat) (x : Value) (news : List Value) : Prop where
  len : ∀ w' : World, (Builtin.lenOf x).run P w' = .ok n w'
  get : ∀ w' : World, w'.heap = w.heap → (Builtin.firstCells size n x).run P w' = .ok news.toArray w'
  num : news.length = n * size
  one : ∀ u ∈ news, u.oneCell' = true

theorem reads_slice {size n c : Nat} {a : Addr} {news : List Value} (hl : news.length = n * size) (h : ∀ (j : Nat) v, news[j]? = some v → w.cell? (a.add j) = some v) (h1 : ∀ u ∈ news, u.oneCell' = true) :
    Reads P w size n (.slice (some a) n c) news :=
  ⟨fun w' => rfl, fun w' hw => run_firstCells_some w' size n a n c news hl (fun j v hj => by rw [← h j v hj]; simp only [World.cell?, hw]), hl, h1⟩

theorem reads_nil {size : Nat} : Reads P w size 0 (.slice none 0 0) [] :=
  ⟨fun w' => rfl, fun w' hw => run_firstCells_none w' size 0 0 0, by simp, by simp⟩

theorem reads_empty {size : Nat} (a : Addr) (c : Nat) : Reads P w size 0 (.slice (some a) 0 c) [] :=
  reads_slice w (by simp) (by simp) (by simp)

theorem reads_str (s : ByteArray) : Reads P w 1 s.size (.string s) (s.data.toList.map fun b => .int .u8 (b.toNat : Int)) := by
  refine ⟨fun w' => rfl, fun w' _ => ?_, by rw [List.length_map, Nat.mul_one]; rfl, fun u hu => by obtain ⟨b, _, rfl⟩ := List.mem_map.1 hu; rfl⟩
  have hx : s.extract 0 s.size = s := by
    apply ByteArray.ext
    rw [ByteArray.data_extract]
    exact Array.extract_size
  simp only [Builtin.firstCells, hx, Sem.run_pure]
  congr 1
  apply Array.ext'
  simp

theorem run_app_grow (t u ty e : TypeId) (i : TypeInfo) (z : Value) (ht : P.underlying t = some (.slice e)) (hu : ∃ d, P.underlying u = some d ∧ ∀ k, d ≠ .int k) (hi : P.info? e = some i) (hz : i.zero = some z)
    (base : Option Addr) (sLen sCap : Nat) (olds : List Value) (ho : ∀ w' : World, w'.heap = w.heap → (Builtin.firstCells i.size sLen (.slice base sLen sCap)).run P w' = .ok olds.toArray w')
    (x : Value) (n : Nat) (news : List Value) (hx : Reads P w i.size n x news)
    (hg : sCap < sLen + n) (h63 : sLen + n ≤ 9223372036854775807) (hfit : (sLen + n) * i.bytes ≤ 140737488355328) :
    (Builtin.append_ #[t, u] ty #[.slice base sLen sCap, x]).run P w =
      .ok (.slice (some ⟨w.heap.size, 0, none⟩) (sLen + n) (grownCap w (sLen + n) sCap e))
        (w.drew.alloc (.cells (olds.toArray ++ news.toArray ++ Builtin.zeroCells z.cells (grownCap w (sLen + n) sCap e - (sLen + n))) e)) := by
  obtain ⟨d, hu, hd⟩ := hu
  have hn : ¬ (sLen + n ≤ sCap) := by omega
  have h63' : ¬ (9223372036854775807 < ((sLen : Int) + (n : Int))) := by omega
  have hfit' := growslice_fits (by omega : sCap < sLen + n) hfit
  have h48' : ¬ (281474976710656 < Builtin.nextslicecap (sLen + n) sCap * i.bytes) := by omega
  have hf := hx.get w.drew rfl
  have hfo := ho w.drew rfl
  have hnot : (match d with | TypeDesc.int _ => true | _ => false) = false := by cases d <;> first | rfl | exact (hd _ rfl).elim
  simp [Builtin.append_, run_underlying ht, run_underlying hu, hnot, sizeOf, typeInfo, zeroValue, hi, hz, hx.len, hn, h63', h48', Question.forced, hf, hfo, newRow, grownCap]
  congr 2
  apply Array.ext'
  simp [List.append_assoc]

theorem run_app_room (t u ty e : TypeId) (i : TypeInfo) (ht : P.underlying t = some (.slice e)) (hu : ∃ d, P.underlying u = some d ∧ ∀ k, d ≠ .int k) (hi : P.info? e = some i)
    (g sLen sCap : Nat) (cur : Array Value) (hg : w.heap[g]? = some (.cells cur e (0, 0)))
    (x : Value) (n : Nat) (news : List Value) (hx : Reads P w i.size n x news)
    (hroom : sLen + n ≤ sCap) (hfit : sLen * i.size + news.length ≤ cur.size) :
    (Builtin.append_ #[t, u] ty #[.slice (some ⟨g, 0, none⟩) sLen sCap, x]).run P w =
      .ok (.slice (some ⟨g, 0, none⟩) (sLen + n) sCap) (w.setRow g (cur.toList.take (sLen * i.size) ++ news ++ cur.toList.drop (sLen * i.size + news.length)).toArray) := by
  obtain ⟨d, hu, hd⟩ := hu
  have hf := hx.get w rfl
  have hst := run_storeCells_at P g (sLen * i.size) e news 0 cur w hg (by simpa using hfit) hx.one
  simp only [Nat.add_zero] at hst
  have hnot : (match d with | TypeDesc.int _ => true | _ => false) = false := by cases d <;> first | rfl | exact (hd _ rfl).elim
  simp [Builtin.append_, run_underlying ht, run_underlying hu, hnot, sizeOf, typeInfo, hi, hx.len, hroom, hf, Addr.add_lit, hst]

theorem run_app_nil0 (t u ty e : TypeId) (i : TypeInfo) (ht : P.underlying t = some (.slice e)) (hu : ∃ d, P.underlying u = some d ∧ ∀ k, d ≠ .int k) (hi : P.info? e = some i)
    (x : Value) (news : List Value) (hx : Reads P w i.size 0 x news) :
    (Builtin.append_ #[t, u] ty #[.slice none 0 0, x]).run P w = .ok (.slice none 0 0) w := by
  obtain ⟨d, hu, hd⟩ := hu
  have hf := hx.get w rfl
  have hnot : (match d with | TypeDesc.int _ => true | _ => false) = false := by cases d <;> first | rfl | exact (hd _ rfl).elim
  simp [Builtin.append_, run_underlying ht, run_underlying hu, hnot, sizeOf, typeInfo, hi, hx.len, hf]

theorem run_app_emp0 (t u ty e : TypeId) (i : TypeInfo) (ht : P.underlying t = some (.slice e)) (hu : ∃ d, P.underlying u = some d ∧ ∀ k, d ≠ .int k) (hi : P.info? e = some i)
    (a : Addr) (x : Value) (news : List Value) (hx : Reads P w i.size 0 x news) :
    (Builtin.append_ #[t, u] ty #[.slice (some a) 0 0, x]).run P w = .ok (.slice (some a) 0 0) w := by
  obtain ⟨d, hu, hd⟩ := hu
  have hf := hx.get w rfl
  have hnum := hx.num
  have : news = [] := List.eq_nil_of_length_eq_zero (by simpa using hnum)
  subst this
  have hnot : (match d with | TypeDesc.int _ => true | _ => false) = false := by cases d <;> first | rfl | exact (hd _ rfl).elim
  simp [Builtin.append_, run_underlying ht, run_underlying hu, hnot, sizeOf, typeInfo, hi, hx.len, hf, storeCells]
end

end Go.Proofs.YthpkehhghcpolaaDoor
