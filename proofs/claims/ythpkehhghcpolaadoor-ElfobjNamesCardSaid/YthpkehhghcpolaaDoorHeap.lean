/-
  New blocks, stores, appends: the world goes on holding the blocks of the walk's own.
-/
import Derived.Test.YthpkehhghcpolaaDoorEval
namespace Go.Proofs.YthpkehhghcpolaaDoor
open Go.RowKit
set_option linter.unusedVariables false

theorem Cx.M_iff {c : Cx} {H : AH} {cb : Nat} : c.M H cb ↔ c.F cb ∨ ∃ b blk, H[b]? = some blk ∧ blk.live = true ∧ c.G b = some cb := Iff.rfl

/-- The context behind a new block. -/
def Cx.new (c : Cx) (n cb : Nat) : Cx := ⟨c.F, fun b => if b = n then some cb else c.G b⟩

theorem getElem?_snoc_lt {α : Type} {l : List α} {x : α} {i : Nat} (h : i < l.length) : (l ++ [x])[i]? = l[i]? := by
  rw [List.getElem?_append_left h]

theorem getElem?_snoc_eq {α : Type} {l : List α} {x : α} : (l ++ [x])[l.length]? = some x := by simp

theorem HS.dom' {w c H B} (h : HS w c H B) : c.G H.length = none := by
  cases hg : c.G H.length with
  | none => rfl
  | some cb => have := h.dom _ _ hg; omega

theorem lt_of_getElem? {α : Type} {l : List α} {i : Nat} {x : α} (h : l[i]? = some x) : i < l.length := by
  rcases Nat.lt_or_ge i l.length with h1 | h1
  · exact h1
  · simp [List.getElem?_eq_none h1] at h

theorem heap_old (w : World) (o : Obj) (i : Nat) (h : i < w.heap.size) : (w.alloc o).heap[i]? = w.heap[i]? := heap_alloc_old w o i h

/-- A new block, which may be one of the walk's own. -/
theorem ev_new {w : World} {c : Cx} {H : AH} {B : Nat} (hs : HS w c H B) (o : Obj) (blk : Blk) : Ev w c H (w.alloc o) (c.new H.length w.heap.size) (H ++ [blk]) := by
  refine ⟨rfl, by simp, fun b bk hb => ⟨bk, by rw [getElem?_snoc_lt (lt_of_getElem? hb)]; exact hb, ?_⟩, fun cb hm => ?_, fun cb hlt _ => heap_alloc_old w _ cb hlt,
    fun b bk hb _ hg => by have := lt_of_getElem? hb; simp only [Cx.new, if_neg (show b ≠ H.length by omega)]; exact hg⟩
  · have hne : b ≠ H.length := by have := lt_of_getElem? hb; omega
    cases bk with
    | dead => trivial
    | box cs => exact ⟨rfl, fun cb hc => by simp only [Cx.new, if_neg hne]; exact hc⟩
    | iter s p => exact ⟨rfl, fun cb hc => by simp only [Cx.new, if_neg hne]; exact hc⟩
    | arr e s z g l =>
      refine ⟨rfl, rfl, rfl, Nat.le_refl _, Nat.le_refl _, fun _ => ⟨rfl, fun cb hc => ⟨by simp only [Cx.new, if_neg hne]; exact hc, ?_⟩⟩⟩
      unfold rowSize
      rw [heap_alloc_old w _ cb (hs.base b cb hc).2]
  · rcases hm with hm | ⟨b, bk, hb, hl, hg⟩
    · exact .inl (.inl hm)
    · simp only [Cx.new] at hg
      split at hg
      · exact .inr (by simp at hg; omega)
      · rename_i hne
        refine .inl (.inr ⟨b, bk, ?_, hl, hg⟩)
        have := lt_of_getElem? hb
        simp at this
        rwa [getElem?_snoc_lt (by omega)] at hb

theorem below_new {w : World} {B : Nat} (hB : B ≤ w.heap.size) (o : Obj) : Below B w (w.alloc o) := (Below.refl B w).alloc hB o

theorem Rowed.ew {w c H w' c' H' s} {l : Sq} {arr : Array Value} (h : Rowed w c H s l arr) (ev : Ew w c H w' c' H') : Rowed w' c' H' s l arr := fun i x hi => ⟨(h i x hi).1, fun j y hj => by
  obtain ⟨v, b1, b2, b3, b4⟩ := (h i x hi).2 j y hj
  exact ⟨v, b1, b2, b3.ew ev, b4⟩⟩

theorem Rowed.ev {w c H w' c' H' s} {l : Sq} {arr : Array Value} (h : Rowed w c H s l arr) (ev : Ev w c H w' c' H') : Rowed w' c' H' s l arr := h.ew ev.w

/-- Old blocks are held behind a step that leaves their places alone. -/
theorem HS.keepW {w c H B w' c' H'} (h : HS w c H B) (ev : Ew w c H w' c' H') (hinj : ∀ b b' cb, c'.G b = some cb → c'.G b' = some cb → b = b')
    (hbase : ∀ b cb, c'.G b = some cb → B ≤ cb ∧ cb < w'.heap.size) (hdom : ∀ b cb, c'.G b = some cb → b < H'.length)
    (hbox : ∀ b cb cells, H'[b]? = some (.box cells) → c'.G b = some cb → (H[b]? = some (.box cells) ∧ c.G b = some cb ∧ w'.heap[cb]? = w.heap[cb]?) ∨
      ∃ arr e, w'.heap[cb]? = some (.cells arr e (0, 0)) ∧ arr.size = cells.length ∧ ∀ (j : Nat) x v, cells[j]? = some x → arr[j]? = some v → x.one = true ∧ RA w' c' H' x v ∧ v.oneCell' = true)
    (harr : ∀ b cb e s z g l, H'[b]? = some (.arr e s z g l) → c'.G b = some cb → (H[b]? = some (.arr e s z g l) ∧ c.G b = some cb ∧ w'.heap[cb]? = w.heap[cb]?) ∨
      ∃ arr cap, w'.heap[cb]? = some (.cells arr e (0, 0)) ∧ arr.size = cap * s ∧ (l.length ≤ cap ∧ (g % 2 = 1 → l.length = cap)) ∧ cap ≤ maxLen ∧ Rowed w' c' H' s l arr)
    (hiter : ∀ b cb s p, H'[b]? = some (.iter s p) → c'.G b = some cb → (H[b]? = some (.iter s p) ∧ c.G b = some cb ∧ w'.heap[cb]? = w.heap[cb]?) ∨ ∃ bs : ByteArray, w'.heap[cb]? = some (.stringIter bs p) ∧ bs.data.toList = s) :
    HS w' c' H' B := by
  refine ⟨hinj, hbase, fun cb hf => h.fb cb (by rw [ev.F] at hf; exact hf), Nat.le_trans h.hB ev.size, hdom, fun b cb cells hb hg => ?_, fun b cb e s z g l hb hg => ?_, fun b cb s p hb hg => ?_⟩
  · rcases hbox b cb cells hb hg with ⟨h1, h2, h3⟩ | h1
    · obtain ⟨arr, e, a1, a2, a3⟩ := h.box b cb cells h1 h2
      exact ⟨arr, e, h3.trans a1, a2, fun j x v hj hv => ⟨(a3 j x v hj hv).1, (a3 j x v hj hv).2.1.ew ev, (a3 j x v hj hv).2.2⟩⟩
    · exact h1
  · rcases harr b cb e s z g l hb hg with ⟨h1, h2, h3⟩ | h1
    · obtain ⟨arr, cap, a1, a2, a3, a4, a5⟩ := h.arr b cb e s z g l h1 h2
      exact ⟨arr, cap, h3.trans a1, a2, a3, a4, a5.ew ev⟩
    · exact h1
  · rcases hiter b cb s p hb hg with ⟨h1, h2, h3⟩ | h1
    · obtain ⟨bs, a1, a2⟩ := h.iter b cb s p h1 h2
      exact ⟨bs, h3.trans a1, a2⟩
    · exact h1

theorem HS.keep {w c H B w' c' H'} (h : HS w c H B) (ev : Ev w c H w' c' H') (hinj : ∀ b b' cb, c'.G b = some cb → c'.G b' = some cb → b = b')
    (hbase : ∀ b cb, c'.G b = some cb → B ≤ cb ∧ cb < w'.heap.size) (hdom : ∀ b cb, c'.G b = some cb → b < H'.length)
    (hbox : ∀ b cb cells, H'[b]? = some (.box cells) → c'.G b = some cb → (H[b]? = some (.box cells) ∧ c.G b = some cb ∧ w'.heap[cb]? = w.heap[cb]?) ∨
      ∃ arr e, w'.heap[cb]? = some (.cells arr e (0, 0)) ∧ arr.size = cells.length ∧ ∀ (j : Nat) x v, cells[j]? = some x → arr[j]? = some v → x.one = true ∧ RA w' c' H' x v ∧ v.oneCell' = true)
    (harr : ∀ b cb e s z g l, H'[b]? = some (.arr e s z g l) → c'.G b = some cb → (H[b]? = some (.arr e s z g l) ∧ c.G b = some cb ∧ w'.heap[cb]? = w.heap[cb]?) ∨
      ∃ arr cap, w'.heap[cb]? = some (.cells arr e (0, 0)) ∧ arr.size = cap * s ∧ (l.length ≤ cap ∧ (g % 2 = 1 → l.length = cap)) ∧ cap ≤ maxLen ∧ Rowed w' c' H' s l arr)
    (hiter : ∀ b cb s p, H'[b]? = some (.iter s p) → c'.G b = some cb → (H[b]? = some (.iter s p) ∧ c.G b = some cb ∧ w'.heap[cb]? = w.heap[cb]?) ∨ ∃ bs : ByteArray, w'.heap[cb]? = some (.stringIter bs p) ∧ bs.data.toList = s) :
    HS w' c' H' B := h.keepW ev.w hinj hbase hdom hbox harr hiter

theorem new_inj {w c H B} (hs : HS w c H B) (o : Obj) : ∀ b b' cb, (c.new H.length w.heap.size).G b = some cb → (c.new H.length w.heap.size).G b' = some cb → b = b' := by
  intro b b' cb h h'
  simp only [Cx.new] at h h'
  split at h <;> split at h'
  · omega
  · have := (hs.base b' cb h').2; simp at h; omega
  · have := (hs.base b cb h).2; simp at h'; omega
  · exact hs.inj b b' cb h h'

theorem new_base {w c H B} (hs : HS w c H B) (o : Obj) : ∀ b cb, (c.new H.length w.heap.size).G b = some cb → B ≤ cb ∧ cb < (w.alloc o).heap.size := by
  intro b cb h
  simp only [Cx.new] at h ⊢
  split at h
  · simp at h; subst h; exact ⟨hs.hB, by simp⟩
  · have := hs.base b cb h; exact ⟨this.1, by simp; omega⟩

theorem new_dom {w c H B} (hs : HS w c H B) (blk : Blk) : ∀ b cb, (c.new H.length w.heap.size).G b = some cb → b < (H ++ [blk]).length := by
  intro b cb h
  simp only [Cx.new] at h
  split at h
  · simp; omega
  · have := hs.dom b cb h; simp; omega

/-- A new variable. -/
theorem new_box {w : World} {c : Cx} {H : AH} {B : Nat} (hs : HS w c H B) (e : TypeId) (cells : List AV) (arr : Array Value) (hl : arr.size = cells.length)
    (hc : ∀ (j : Nat) x v, cells[j]? = some x → arr[j]? = some v → x.one = true ∧ RA w c H x v ∧ v.oneCell' = true) :
    HS (w.alloc (.cells arr e)) (c.new H.length w.heap.size) (H ++ [.box cells]) B := by
  have ev := ev_new hs (.cells arr e) (.box cells)
  refine hs.keep ev (new_inj hs (.cells arr e)) (new_base hs (.cells arr e)) (new_dom hs (.box cells)) (fun b cb cs hb hg => ?_) (fun b cb e s z g l hb hg => ?_) (fun b cb s p hb hg => ?_)
  · by_cases hb' : b = H.length
    · subst hb'
      simp only [Cx.new, if_true] at hg
      simp at hb hg
      subst hb hg
      exact .inr ⟨arr, e, heap_alloc_new w _, hl, fun j x v hj hv => ⟨(hc j x v hj hv).1, (hc j x v hj hv).2.1.ev ev, (hc j x v hj hv).2.2⟩⟩
    · simp only [Cx.new, if_neg hb'] at hg
      have h1 := lt_of_getElem? hb
      simp at h1
      rw [getElem?_snoc_lt (by omega)] at hb
      exact .inl ⟨hb, hg, heap_alloc_old w _ cb (hs.base b cb hg).2⟩
  · by_cases hb' : b = H.length
    · subst hb'; simp at hb
    · simp only [Cx.new, if_neg hb'] at hg
      have h1 := lt_of_getElem? hb
      simp at h1
      rw [getElem?_snoc_lt (by omega)] at hb
      exact .inl ⟨hb, hg, heap_alloc_old w _ cb (hs.base b cb hg).2⟩
  · by_cases hb' : b = H.length
    · subst hb'; simp at hb
    · simp only [Cx.new, if_neg hb'] at hg
      have h1 := lt_of_getElem? hb
      simp at h1
      rw [getElem?_snoc_lt (by omega)] at hb
      exact .inl ⟨hb, hg, heap_alloc_old w _ cb (hs.base b cb hg).2⟩

/-- A new row. -/
theorem new_arr {w : World} {c : Cx} {H : AH} {B : Nat} (hs : HS w c H B) (e s : Nat) (z : Bool) (g : Nat) (l : Sq) (arr : Array Value) (cap : Nat)
    (hsz : arr.size = cap * s) (hl : l.length ≤ cap ∧ (g % 2 = 1 → l.length = cap)) (hm : cap ≤ maxLen)
    (hc : Rowed w c H s l arr) :
    HS (w.alloc (.cells arr e)) (c.new H.length w.heap.size) (H ++ [.arr e s z g l]) B := by
  have ev := ev_new hs (.cells arr e) (.arr e s z g l)
  refine hs.keep ev (new_inj hs (.cells arr e)) (new_base hs (.cells arr e)) (new_dom hs (.arr e s z g l)) (fun b cb cs hb hg => ?_) (fun b cb e s z g l hb hg => ?_) (fun b cb s p hb hg => ?_)
  · by_cases hb' : b = H.length
    · subst hb'; simp at hb
    · simp only [Cx.new, if_neg hb'] at hg
      have h1 := lt_of_getElem? hb
      simp at h1
      rw [getElem?_snoc_lt (by omega)] at hb
      exact .inl ⟨hb, hg, heap_alloc_old w _ cb (hs.base b cb hg).2⟩
  · by_cases hb' : b = H.length
    · subst hb'
      simp only [Cx.new, if_true] at hg
      simp at hb hg
      obtain ⟨rfl, rfl, rfl, rfl, rfl⟩ := hb
      subst hg
      exact .inr ⟨arr, cap, heap_alloc_new w _, hsz, hl, hm, hc.ev ev⟩
    · simp only [Cx.new, if_neg hb'] at hg
      have h1 := lt_of_getElem? hb
      simp at h1
      rw [getElem?_snoc_lt (by omega)] at hb
      exact .inl ⟨hb, hg, heap_alloc_old w _ cb (hs.base b cb hg).2⟩
  · by_cases hb' : b = H.length
    · subst hb'; simp at hb
    · simp only [Cx.new, if_neg hb'] at hg
      have h1 := lt_of_getElem? hb
      simp at h1
      rw [getElem?_snoc_lt (by omega)] at hb
      exact .inl ⟨hb, hg, heap_alloc_old w _ cb (hs.base b cb hg).2⟩

/-- A new walk through a string. -/
theorem new_iter {w : World} {c : Cx} {H : AH} {B : Nat} (hs : HS w c H B) (bs : ByteArray) (pos : Nat) :
    HS (w.alloc (.stringIter bs pos)) (c.new H.length w.heap.size) (H ++ [.iter bs.data.toList pos]) B := by
  have ev := ev_new hs (.stringIter bs pos) (.iter bs.data.toList pos)
  refine hs.keep ev (new_inj hs (.stringIter bs pos)) (new_base hs (.stringIter bs pos)) (new_dom hs (.iter bs.data.toList pos)) (fun b cb cs hb hg => ?_) (fun b cb e s z g l hb hg => ?_) (fun b cb s p hb hg => ?_)
  · by_cases hb' : b = H.length
    · subst hb'; simp at hb
    · simp only [Cx.new, if_neg hb'] at hg
      have h1 := lt_of_getElem? hb
      simp at h1
      rw [getElem?_snoc_lt (by omega)] at hb
      exact .inl ⟨hb, hg, heap_alloc_old w _ cb (hs.base b cb hg).2⟩
  · by_cases hb' : b = H.length
    · subst hb'; simp at hb
    · simp only [Cx.new, if_neg hb'] at hg
      have h1 := lt_of_getElem? hb
      simp at h1
      rw [getElem?_snoc_lt (by omega)] at hb
      exact .inl ⟨hb, hg, heap_alloc_old w _ cb (hs.base b cb hg).2⟩
  · by_cases hb' : b = H.length
    · subst hb'
      simp only [Cx.new, if_true] at hg
      simp at hb hg
      obtain ⟨rfl, rfl⟩ := hb
      subst hg
      exact .inr ⟨bs, heap_alloc_new w _, rfl⟩
    · simp only [Cx.new, if_neg hb'] at hg
      have h1 := lt_of_getElem? hb
      simp at h1
      rw [getElem?_snoc_lt (by omega)] at hb
      exact .inl ⟨hb, hg, heap_alloc_old w _ cb (hs.base b cb hg).2⟩

/-- A block of the walk's own that has no place (yet). -/
theorem new_none {w : World} {c : Cx} {H : AH} {B : Nat} (hs : HS w c H B) (blk : Blk) : Ev w c H w c (H ++ [blk]) ∧ HS w c (H ++ [blk]) B := by
  have hdom := hs.dom'
  have ev : Ev w c H w c (H ++ [blk]) := by
    refine ⟨rfl, Nat.le_refl _, fun b bk hb => ⟨bk, by rw [getElem?_snoc_lt (lt_of_getElem? hb)]; exact hb, ?_⟩, fun cb hm => ?_, fun _ _ _ => rfl, fun _ _ _ _ h => h⟩
    · cases bk with
      | dead => trivial
      | box cs => exact ⟨rfl, fun _ h => h⟩
      | iter s p => exact ⟨rfl, fun _ h => h⟩
      | arr => exact ⟨rfl, rfl, rfl, Nat.le_refl _, Nat.le_refl _, fun _ => ⟨rfl, fun _ h => ⟨h, rfl⟩⟩⟩
    · rcases hm with hm | ⟨b, bk, hb, hl, hg⟩
      · exact .inl (.inl hm)
      · refine .inl (.inr ⟨b, bk, ?_, hl, hg⟩)
        rwa [getElem?_snoc_lt (hs.dom b cb hg)] at hb
  refine ⟨ev, hs.keep ev hs.inj hs.base (fun b cb h => by have := hs.dom b cb h; simp; omega) (fun b cb cs hb hg => ?_) (fun b cb e s z g l hb hg => ?_) (fun b cb s p hb hg => ?_)⟩
  · rw [getElem?_snoc_lt (hs.dom b cb hg)] at hb; exact .inl ⟨hb, hg, rfl⟩
  · rw [getElem?_snoc_lt (hs.dom b cb hg)] at hb; exact .inl ⟨hb, hg, rfl⟩
  · rw [getElem?_snoc_lt (hs.dom b cb hg)] at hb; exact .inl ⟨hb, hg, rfl⟩

/-- What follows of a new row or variable for its own name. -/
theorem new_at {w : World} {c : Cx} {H : AH} (blk : Blk) : (H ++ [blk])[H.length]? = some blk ∧ (c.new H.length w.heap.size).G H.length = some w.heap.size := by
  simp [Cx.new]

theorem rowSize_alloc (w : World) (arr : Array Value) (e : TypeId) : rowSize (w.alloc (.cells arr e)) w.heap.size = arr.size := by
  unfold rowSize; rw [heap_alloc_new]

/-- A block is given up. -/
theorem kill {w : World} {c : Cx} {H : AH} {B : Nat} (hs : HS w c H B) (b : Nat) : Ev w c H w c (H.set b .dead) ∧ HS w c (H.set b .dead) B := by
  have get : ∀ (i : Nat) bk, H[i]? = some bk → (H.set b .dead)[i]? = some (if i = b then .dead else bk) := by
    intro i bk hi
    have := lt_of_getElem? hi
    by_cases h : b = i
    · subst h; simp [this]
    · rw [List.getElem?_set_ne h, hi, if_neg (fun e => h e.symm)]
  have back : ∀ (i : Nat) bk, (H.set b .dead)[i]? = some bk → bk ≠ .dead → H[i]? = some bk := by
    intro i bk hi hne
    by_cases h : b = i
    · subst h
      have := lt_of_getElem? hi
      simp at this
      simp [this] at hi
      exact (hne hi.symm).elim
    · rwa [List.getElem?_set_ne h] at hi
  have ev : Ev w c H w c (H.set b .dead) := by
    refine ⟨rfl, Nat.le_refl _, fun i bk hi => ⟨_, get i bk hi, ?_⟩, fun cb hm => ?_, fun _ _ _ => rfl, fun _ _ _ _ h => h⟩
    · split
      · cases bk <;> trivial
      · cases bk with
        | dead => trivial
        | box cs => exact ⟨rfl, fun _ h => h⟩
        | iter s p => exact ⟨rfl, fun _ h => h⟩
        | arr => exact ⟨rfl, rfl, rfl, Nat.le_refl _, Nat.le_refl _, fun _ => ⟨rfl, fun _ h => ⟨h, rfl⟩⟩⟩
    · rcases hm with hm | ⟨i, bk, hi, hl, hg⟩
      · exact .inl (.inl hm)
      · exact .inl (.inr ⟨i, bk, back i bk hi (by rintro rfl; simp [Blk.live] at hl), hl, hg⟩)
  refine ⟨ev, hs.keep ev hs.inj hs.base (fun b cb h => by have := hs.dom b cb h; simp; omega) (fun i cb cs hi hg => ?_) (fun i cb e s z g l hi hg => ?_) (fun i cb s p hi hg => ?_)⟩
  · exact .inl ⟨back i _ hi (by simp), hg, rfl⟩
  · exact .inl ⟨back i _ hi (by simp), hg, rfl⟩
  · exact .inl ⟨back i _ hi (by simp), hg, rfl⟩

end Go.Proofs.YthpkehhghcpolaaDoor
