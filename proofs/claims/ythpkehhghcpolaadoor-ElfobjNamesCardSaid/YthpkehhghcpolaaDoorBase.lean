/-
  The ground of the walks of this seat: plain data ('T'), what a slot of a frame holds in a walk ('AV'), blocks of the walk's own ('Blk'), and when a world holds them.
-/
import Derived.Laws.AppendOwn
import Derived.Below
import Derived.Laws.RangeString
namespace Go.Proofs.YthpkehhghcpolaaDoor
open Go.RowKit
set_option linter.unusedVariables false

/-- Plain data that nobody writes while it is looked at. -/
inductive T where
  | bool (b : Bool) | int (k : IntKind) (n : Int) | str (s : List UInt8)
  | nilp | nils | nilf | nili
  | iptr (cells : List T)
  | vec (s : Nat) (l : List T)
  | agg (cs : List T)
  | fn (f : Fn) (first captured : List T)
  | ifc (t : TypeId) (v : T)

def T.cells : T → List T
  | .agg cs => cs
  | v => [v]

/-- Is it the value of one cell? -/
def T.one : T → Bool
  | .agg _ => false
  | _ => true

/-- 'x' is read at 'v' in the world 'w', in blocks that aren't in 'M'. -/
inductive RT (w : World) (M : Nat → Prop) : T → Value → Prop
  | bool (b) : RT w M (.bool b) (.bool b)
  | int (k n) : RT w M (.int k n) (.int k n)
  | str (s : ByteArray) : RT w M (.str s.data.toList) (.string s)
  | nilp : RT w M .nilp (.pointer none)
  | nils : RT w M .nils (.slice none 0 0)
  | nilf : RT w M .nilf .nilFunc
  | nili : RT w M .nili .nilIface
  | iptr (cells : List T) (b off : Nat) (vals : Nat → Value) (hM : cells ≠ [] → ¬ M b)
      (hc : ∀ (i : Nat) c, cells[i]? = some c → w.cell? ⟨b, off + i, none⟩ = some (vals i) ∧ c.one = true)
      (hr : ∀ (i : Nat) c, cells[i]? = some c → RT w M c (vals i)) : RT w M (.iptr cells) (.pointer (some ⟨b, off, none⟩))
  | vec (s : Nat) (l : List T) (b off cap : Nat) (sp : Option Nat) (vals : Nat → Nat → Value) (hM : l ≠ [] → 0 < s → ¬ M b) (hcap : l.length ≤ cap) (hsp : l ≠ [] → sp = none)
      (hs : ∀ (i : Nat) e, l[i]? = some e → e.cells.length = s)
      (hc : ∀ (i : Nat) e (j : Nat) c, l[i]? = some e → e.cells[j]? = some c → w.cell? ⟨b, off + i * s + j, none⟩ = some (vals i j) ∧ c.one = true)
      (hr : ∀ (i : Nat) e (j : Nat) c, l[i]? = some e → e.cells[j]? = some c → RT w M c (vals i j)) :
      RT w M (.vec s l) (.slice (some ⟨b, off, sp⟩) l.length cap)
  | agg (cs : List T) (vs : Array Value) (hl : cs.length = vs.size) (h1 : ∀ (i : Nat) c, cs[i]? = some c → c.one = true)
      (hr : ∀ (i : Nat) c v, cs[i]? = some c → vs[i]? = some v → RT w M c v) : RT w M (.agg cs) (.agg vs)
  | fn (f : Fn) (first captured : List T) (a b : Array Value) (ha : first.length = a.size) (hb : captured.length = b.size)
      (hra : ∀ (i : Nat) c v, first[i]? = some c → a[i]? = some v → RT w M c v)
      (hrb : ∀ (i : Nat) c v, captured[i]? = some c → b[i]? = some v → RT w M c v) : RT w M (.fn f first captured) (.func f a b)
  | ifc (t : TypeId) (x : T) (v : Value) (h : RT w M x v) : RT w M (.ifc t x) (.iface t v)

/-- What is read stays, as long as the blocks out of M stay and none comes into M but new ones. -/
theorem RT.mono {w w' : World} {M M' : Nat → Prop} (hb : ∀ b, b < w.heap.size → ¬ M b → w'.heap[b]? = w.heap[b]? ∧ ¬ M' b)
    {x : T} {v : Value} (h : RT w M x v) : RT w' M' x v := by
  have cell : ∀ {b o : Nat} {u : Value}, ¬ M b → w.cell? ⟨b, o, none⟩ = some u → w'.cell? ⟨b, o, none⟩ = some u := by
    intro b o u hm hc
    have hlt := World.block_lt_of_cell? w _ hc
    exact (World.cell?_of_block (w := w) (w' := w') (a := ⟨b, o, none⟩) (hb b hlt hm).1).trans hc
  induction h with
  | bool b => exact .bool b
  | int k n => exact .int k n
  | str s => exact .str s
  | nilp => exact .nilp
  | nils => exact .nils
  | nilf => exact .nilf
  | nili => exact .nili
  | iptr cells b off vals hM0 hc _ ih =>
    refine .iptr cells b off vals (fun hne => ?_) (fun i c hi => ⟨cell (hM0 ?_) (hc i c hi).1, (hc i c hi).2⟩) ih
    · obtain ⟨c, r, rfl⟩ := List.exists_cons_of_ne_nil hne
      exact (hb b (World.block_lt_of_cell? w _ (hc 0 c rfl).1) (hM0 hne)).2
    · intro e; simp [e] at hi
  | vec s l b off cap sp vals hM0 hcap hsp hs hc _ ih =>
    refine .vec s l b off cap sp vals (fun hne hp => ?_) hcap hsp hs (fun i e j c hi hj => ⟨cell (hM0 ?_ ?_) (hc i e j c hi hj).1, (hc i e j c hi hj).2⟩) ih
    · obtain ⟨e, r, rfl⟩ := List.exists_cons_of_ne_nil hne
      have h1 := hs 0 e rfl
      have h2 : e.cells[0]? = some (e.cells[0]'(by omega)) := List.getElem?_eq_getElem _
      exact (hb b (World.block_lt_of_cell? w _ (hc 0 e 0 _ rfl h2).1) (hM0 hne hp)).2
    · intro e; simp [e] at hi
    · have h1 := hs i e hi
      have h2 : j < e.cells.length := by
        rcases Nat.lt_or_ge j e.cells.length with h | h
        · exact h
        · simp [List.getElem?_eq_none h] at hj
      omega
  | agg cs vs hl h1 _ ih => exact .agg cs vs hl h1 ih
  | fn f first captured a b ha hb' _ _ iha ihb => exact .fn f first captured a b ha hb' iha ihb
  | ifc t x v _ ih => exact .ifc t x v ih

/-- What a slot holds in a walk. -/
inductive AV where
  | t (x : T)
  | ptr (b g i o : Nat)
  | sl (b g i len : Nat)
  | agg (cs : List AV)
  | tup (vs : List AV)
  | fn (f : Fn) (first captured : List AV)
  | ifc (t : TypeId) (v : AV)
  | own (e s : Nat) (z : Bool) (l : List T)
  | emp
  | junk

/-- A row's elements: plain data, or whatever else. -/
inductive Sq where
  | ts (l : List T)
  | vs (l : List AV)

def Sq.length : Sq → Nat
  | .ts l => l.length
  | .vs l => l.length

def Sq.get : Sq → Nat → Option AV
  | .ts l, i => l[i]?.map .t
  | .vs l, i => l[i]?

def Sq.part : Sq → Nat → Nat → Sq
  | .ts l, i, n => .ts ((l.drop i).take n)
  | .vs l, i, n => .vs ((l.drop i).take n)

def Sq.app : Sq → Sq → Sq
  | .ts a, .ts b => .ts (a ++ b)
  | .ts a, .vs b => .vs (a.map .t ++ b)
  | .vs a, .ts b => .vs (a ++ b.map .t)
  | .vs a, .vs b => .vs (a ++ b)

/-- A row with a part of it put anew. -/
def Sq.put (l : Sq) (o : Nat) (news : Sq) : Sq :=
  match l, news with
  | .ts a, .ts b => .ts (a.take o ++ b ++ a.drop (o + b.length))
  | l, news => ((l.part 0 o).app news).app (l.part (o + news.length) l.length)

/-- A block of the walk's own: one variable; a row of elements that grows ('e' their type, 's' their cells, 'z': it is nil while it is empty, 'g': its length when it was last appended to). -/
inductive Blk where
  | dead
  | box (cells : List AV)
  | arr (e s : Nat) (z : Bool) (g : Nat) (l : Sq)
  | iter (s : List UInt8) (pos : Nat)

def AV.cells : AV → List AV
  | .agg cs => cs
  | .t (.agg cs) => cs.map .t
  | v => [v]

def AV.one : AV → Bool
  | .agg _ => false
  | .tup _ => false
  | .junk => false
  | .own .. => false
  | .t x => x.one
  | _ => true

abbrev AH := List Blk

def AH.at (H : AH) (b : Nat) : Option Blk := H[b]?

def Blk.isArr : Blk → Bool
  | .arr .. => true
  | _ => false

/-- A block that keeps its place, once it has one. -/
def Blk.fix : Blk → Bool
  | .arr _ _ z _ l => !z && decide (0 < l.length)
  | _ => true

def Blk.live : Blk → Bool
  | .dead => false
  | _ => true

/-- Where the blocks lie: 'F': what may not be touched, 'G': the block of each block of the walk's own. -/
structure Cx where
  F : Nat → Prop
  G : Nat → Option Nat

def Cx.M (c : Cx) (H : AH) (cb : Nat) : Prop := c.F cb ∨ ∃ b blk, H[b]? = some blk ∧ blk.live = true ∧ c.G b = some cb

/-- The size, in cells, of a block. -/
def rowSize (w : World) (cb : Nat) : Nat := match w.heap[cb]? with | some (.cells arr _ _) => arr.size | _ => 0

inductive RA (w : World) (c : Cx) (H : AH) : AV → Value → Prop
  | t (x v) (h : RT w (c.M H) x v) : RA w c H (.t x) v
  | ptr (b g i o : Nat) (v : Value) (blk : Blk) (hb : H[b]? = some blk)
      (h : match blk with
        | .dead => True
        | .box _ => ∃ cb, c.G b = some cb ∧ v = .pointer (some ⟨cb, o, none⟩)
        | .iter _ _ => ∃ cb, c.G b = some cb ∧ v = .pointer (some ⟨cb, o, none⟩)
        | .arr _ s _ gen _ => g ≤ gen ∧ (g = gen → ∃ cb, c.G b = some cb ∧ v = .pointer (some ⟨cb, i * s + o, none⟩)))
      (hv : ∃ a, v = .pointer a := by exact ⟨_, rfl⟩) : RA w c H (.ptr b g i o) v
  | sl (b g i len : Nat) (v : Value) (blk : Blk) (hb : H[b]? = some blk)
      (h : match blk with
        | .dead => True
        | .box _ => False
        | .iter _ _ => False
        | .arr _ s z gen l => g ≤ gen ∧ (g = gen → i + len ≤ l.length ∧
            ((z = true ∧ l.length = 0 ∧ v = .slice none 0 0) ∨ (z = false ∧ l.length = 0 ∧ ∃ (ad : Addr), v = .slice (some ad) 0 0) ∨
             (¬ (z = true ∧ l.length = 0) ∧ ∃ cb cap off, c.G b = some cb ∧ v = .slice (some ⟨cb, off, none⟩) len cap ∧ (i + cap) * s = rowSize w cb ∧ len ≤ cap ∧ i + cap ≤ maxLen ∧ (cap = 0 ∨ off = i * s) ∧ (i = 0 → off = 0)))))
      (hv : ∃ a n m, v = .slice a n m := by exact ⟨_, _, _, rfl⟩) : RA w c H (.sl b g i len) v
  | agg (cs : List AV) (vs : Array Value) (hl : cs.length = vs.size) (h1 : ∀ (i : Nat) x, cs[i]? = some x → x.one = true)
      (hr : ∀ (i : Nat) x v, cs[i]? = some x → vs[i]? = some v → RA w c H x v) : RA w c H (.agg cs) (.agg vs)
  | tup (cs : List AV) (vs : Array Value) (hl : cs.length = vs.size)
      (hr : ∀ (i : Nat) x v, cs[i]? = some x → vs[i]? = some v → RA w c H x v) : RA w c H (.tup cs) (.tuple vs)
  | fn (f : Fn) (first captured : List AV) (a b : Array Value) (ha : first.length = a.size) (hb : captured.length = b.size)
      (hra : ∀ (i : Nat) x v, first[i]? = some x → a[i]? = some v → RA w c H x v)
      (hrb : ∀ (i : Nat) x v, captured[i]? = some x → b[i]? = some v → RA w c H x v) : RA w c H (.fn f first captured) (.func f a b)
  | ifc (t : TypeId) (x : AV) (v : Value) (h : RA w c H x v) : RA w c H (.ifc t x) (.iface t v)
  | emp (ad : Addr) : RA w c H .emp (.slice (some ad) 0 0)
  | junk (v) : RA w c H .junk v

/-- The cells of a row. -/
def Rowed (w : World) (c : Cx) (H : AH) (s : Nat) (l : Sq) (arr : Array Value) : Prop :=
  ∀ (i : Nat) x, l.get i = some x → x.cells.length = s ∧ ∀ (j : Nat) y, x.cells[j]? = some y → ∃ v, arr[i * s + j]? = some v ∧ y.one = true ∧ RA w c H y v ∧ v.oneCell' = true

theorem T.cells_t (x : T) : (AV.t x).cells = x.cells.map .t := by cases x <;> rfl

theorem Rowed.ts {w c H s} {l : List T} {arr : Array Value} : Rowed w c H s (.ts l) arr ↔
    ∀ (i : Nat) x, l[i]? = some x → x.cells.length = s ∧ ∀ (j : Nat) y, x.cells[j]? = some y → ∃ v, arr[i * s + j]? = some v ∧ y.one = true ∧ RT w (c.M H) y v ∧ v.oneCell' = true := by
  constructor
  · intro h i x hi
    obtain ⟨h1, h2⟩ := h i (.t x) (by simp [Sq.get, hi])
    rw [T.cells_t] at h1 h2
    refine ⟨by simpa using h1, fun j y hj => ?_⟩
    obtain ⟨v, a1, a2, a3, a4⟩ := h2 j (.t y) (by simp [hj])
    cases a3 with | t _ _ a3 => exact ⟨v, a1, a2, a3, a4⟩
  · intro h i x hi
    simp only [Sq.get, Option.map_eq_some_iff] at hi
    obtain ⟨x, hi, rfl⟩ := hi
    obtain ⟨h1, h2⟩ := h i x hi
    rw [T.cells_t]
    refine ⟨by simpa using h1, fun j y hj => ?_⟩
    simp only [List.getElem?_map, Option.map_eq_some_iff] at hj
    obtain ⟨y, hj, rfl⟩ := hj
    obtain ⟨v, a1, a2, a3, a4⟩ := h2 j y hj
    exact ⟨v, a1, a2, .t _ _ a3, a4⟩

theorem Sq.get_lt {l : Sq} {i : Nat} {x : AV} (h : l.get i = some x) : i < l.length := by
  cases l with
  | ts l =>
    simp only [Sq.get, Option.map_eq_some_iff] at h
    obtain ⟨_, h, _⟩ := h
    rcases Nat.lt_or_ge i l.length with k | k
    · exact k
    · simp [List.getElem?_eq_none k] at h
  | vs l =>
    simp only [Sq.get] at h
    rcases Nat.lt_or_ge i l.length with k | k
    · exact k
    · simp [List.getElem?_eq_none k] at h

theorem Sq.get_of_lt {l : Sq} {i : Nat} (h : i < l.length) : ∃ x, l.get i = some x := by
  cases l with
  | ts l => exact ⟨.t (l[i]'h), by simp only [Sq.get]; rw [List.getElem?_eq_getElem (show i < l.length from h)]; rfl⟩
  | vs l => exact ⟨l[i]'h, List.getElem?_eq_getElem (show i < l.length from h)⟩

theorem Sq.part_length (l : Sq) (i n : Nat) : (l.part i n).length = min n (l.length - i) := by
  cases l <;> simp [Sq.part, Sq.length]

theorem Sq.part_get (l : Sq) (i n k : Nat) : (l.part i n).get k = if k < n then l.get (i + k) else none := by
  cases l <;> simp only [Sq.part, Sq.get, List.getElem?_take, List.getElem?_drop] <;> split <;> simp

theorem Sq.app_length (a b : Sq) : (a.app b).length = a.length + b.length := by
  cases a <;> cases b <;> simp [Sq.app, Sq.length]

theorem Sq.app_get (a b : Sq) (k : Nat) : (a.app b).get k = if k < a.length then a.get k else b.get (k - a.length) := by
  by_cases h : k < a.length
  · rw [if_pos h]
    cases a <;> cases b <;> simp only [Sq.app, Sq.get, Sq.length] at h ⊢ <;> rw [List.getElem?_append_left (by simpa using h)] <;> simp
  · rw [if_neg h]
    cases a <;> cases b <;> simp only [Sq.app, Sq.get, Sq.length] at h ⊢ <;> rw [List.getElem?_append_right (by simpa using h)] <;> simp

theorem Sq.put_eq (l : Sq) (o : Nat) (news : Sq) : (l.put o news).length = ((l.part 0 o).app news |>.app (l.part (o + news.length) l.length)).length ∧ ∀ k, (l.put o news).get k = ((l.part 0 o).app news |>.app (l.part (o + news.length) l.length)).get k := by
  cases l with
  | vs l => exact ⟨rfl, fun _ => rfl⟩
  | ts l =>
    cases news with
    | vs n => exact ⟨rfl, fun _ => rfl⟩
    | ts n =>
      have e : l.drop (o + n.length) = (l.drop (o + n.length)).take l.length := (List.take_of_length_le (by simp)).symm
      constructor
      · simp only [Sq.put, Sq.part, Sq.app, Sq.length, List.drop_zero]
        rw [← e]
      · intro k
        simp only [Sq.put, Sq.part, Sq.app, Sq.get, Sq.length, List.drop_zero]
        rw [← e]

theorem Sq.put_length {l news : Sq} {o : Nat} (h : o + news.length ≤ l.length) : (l.put o news).length = l.length := by
  rw [(Sq.put_eq l o news).1, Sq.app_length, Sq.app_length, Sq.part_length, Sq.part_length]; omega

theorem Sq.put_get {l news : Sq} {o : Nat} (h : o + news.length ≤ l.length) (k : Nat) :
    (l.put o news).get k = if k < o then l.get k else if k < o + news.length then news.get (k - o) else l.get k := by
  rw [(Sq.put_eq l o news).2, Sq.app_get, Sq.app_get, Sq.app_length, Sq.part_length, Sq.part_get, Sq.part_get]
  have e : min o (l.length - 0) = o := by omega
  rw [e]
  by_cases h1 : k < o
  · rw [if_pos (by omega), if_pos h1, if_pos h1, if_pos h1, Nat.zero_add]
  · by_cases h2 : k < o + news.length
    · rw [if_pos h2, if_neg h1, if_neg h1, if_pos h2]
    · rw [if_neg h2, if_neg h1, if_neg h2, show o + news.length + (k - (o + news.length)) = k by omega]
      split
      · rfl
      · rename_i h3
        cases l with
        | ts l => simp only [Sq.length, Sq.get] at h3 ⊢; rw [List.getElem?_eq_none (by omega)]; rfl
        | vs l => simp only [Sq.length, Sq.get] at h3 ⊢; rw [List.getElem?_eq_none (by omega)]

/-- The world holds the blocks of the walk's own. -/
structure HS (w : World) (c : Cx) (H : AH) (B : Nat) : Prop where
  inj : ∀ b b' cb, c.G b = some cb → c.G b' = some cb → b = b'
  base : ∀ b cb, c.G b = some cb → B ≤ cb ∧ cb < w.heap.size
  fb : ∀ cb, c.F cb → cb < B
  hB : B ≤ w.heap.size
  dom : ∀ b cb, c.G b = some cb → b < H.length
  box : ∀ b cb cells, H[b]? = some (.box cells) → c.G b = some cb → ∃ arr e, w.heap[cb]? = some (.cells arr e (0, 0)) ∧ arr.size = cells.length ∧
    ∀ (j : Nat) x v, cells[j]? = some x → arr[j]? = some v → x.one = true ∧ RA w c H x v ∧ v.oneCell' = true
  arr : ∀ b cb e s z g l, H[b]? = some (.arr e s z g l) → c.G b = some cb → ∃ arr cap, w.heap[cb]? = some (.cells arr e (0, 0)) ∧ arr.size = cap * s ∧ (l.length ≤ cap ∧ (g % 2 = 1 → l.length = cap)) ∧ cap ≤ maxLen ∧
    Rowed w c H s l arr
  iter : ∀ b cb s p, H[b]? = some (.iter s p) → c.G b = some cb → ∃ bs : ByteArray, w.heap[cb]? = some (.stringIter bs p) ∧ bs.data.toList = s

/-- How a block may go on. -/
def Blk.goes (w : World) (c : Cx) (w' : World) (c' : Cx) (b : Nat) : Blk → Blk → Prop
  | _, .dead => True
  | .box cs, .box cs' => cs.length = cs'.length ∧ ∀ cb, c.G b = some cb → c'.G b = some cb
  | .iter s _, .iter s' _ => s' = s ∧ ∀ cb, c.G b = some cb → c'.G b = some cb
  | .arr e s z g l, .arr e' s' z' g' l' => e' = e ∧ s' = s ∧ z' = z ∧ l.length ≤ l'.length ∧ g ≤ g' ∧ (g = g' → l'.length = l.length ∧ ∀ cb, c.G b = some cb → c'.G b = some cb ∧ rowSize w' cb = rowSize w cb)
  | _, _ => False

/-- How a state may go on. -/
structure Ew (w : World) (c : Cx) (H : AH) (w' : World) (c' : Cx) (H' : AH) : Prop where
  F : c'.F = c.F
  size : w.heap.size ≤ w'.heap.size
  blk : ∀ b blk, H[b]? = some blk → ∃ blk', H'[b]? = some blk' ∧ Blk.goes w c w' c' b blk blk'
  muts : ∀ cb, c'.M H' cb → c.M H cb ∨ w.heap.size ≤ cb
  mem : ∀ cb, cb < w.heap.size → ¬ c.M H cb → w'.heap[cb]? = w.heap[cb]?

/-- The same, and a block that has no place gets none. -/
structure Ev (w : World) (c : Cx) (H : AH) (w' : World) (c' : Cx) (H' : AH) : Prop where
  F : c'.F = c.F
  size : w.heap.size ≤ w'.heap.size
  blk : ∀ b blk, H[b]? = some blk → ∃ blk', H'[b]? = some blk' ∧ Blk.goes w c w' c' b blk blk'
  muts : ∀ cb, c'.M H' cb → c.M H cb ∨ w.heap.size ≤ cb
  mem : ∀ cb, cb < w.heap.size → ¬ c.M H cb → w'.heap[cb]? = w.heap[cb]?
  late : ∀ b blk, H[b]? = some blk → blk.fix = true → c.G b = none → c'.G b = none

theorem Ev.w {w c H w' c' H'} (h : Ev w c H w' c' H') : Ew w c H w' c' H' := ⟨h.F, h.size, h.blk, h.muts, h.mem⟩

theorem Ew.rt {w c H w' c' H'} (h : Ew w c H w' c' H') {x : T} {v : Value} (hr : RT w (c.M H) x v) : RT w' (c'.M H') x v :=
  hr.mono (fun b hlt hM => ⟨h.mem b hlt hM, fun hm => (h.muts b hm).elim hM (fun h => by omega)⟩)

theorem Ev.rt {w c H w' c' H'} (h : Ev w c H w' c' H') {x : T} {v : Value} (hr : RT w (c.M H) x v) : RT w' (c'.M H') x v := h.w.rt hr

theorem RA.ew {w c H w' c' H'} (h : Ew w c H w' c' H') {x : AV} {v : Value} (hr : RA w c H x v) : RA w' c' H' x v := by
  induction hr with
  | t x v hx => exact .t x v (h.rt hx)
  | ptr b g i o v blk hb hm hv =>
    obtain ⟨blk', hb', hk⟩ := h.blk b blk hb
    refine .ptr b g i o v blk' hb' ?_ hv
    cases blk' with
    | dead => trivial
    | box cs' =>
      cases blk with
      | dead => exact hk.elim
      | arr => exact hk.elim
      | iter => exact hk.elim
      | box cs => obtain ⟨cb, h1, h2⟩ := hm; exact ⟨cb, hk.2 cb h1, h2⟩
    | iter s' p' =>
      cases blk with
      | dead => exact hk.elim
      | arr => exact hk.elim
      | box => exact hk.elim
      | iter s p => obtain ⟨cb, h1, h2⟩ := hm; exact ⟨cb, hk.2 cb h1, h2⟩
    | arr e' s' z' g' l' =>
      cases blk with
      | dead => exact hk.elim
      | box => exact hk.elim
      | iter => exact hk.elim
      | arr e s z g0 l =>
        obtain ⟨rfl, rfl, rfl, _, hg, hk⟩ := hk
        refine ⟨Nat.le_trans hm.1 hg, fun he => ?_⟩
        have : g0 = g' := by have := hm.1; omega
        obtain ⟨cb, h1, h2⟩ := hm.2 (by omega)
        exact ⟨cb, ((hk this).2 cb h1).1, h2⟩
  | sl b g i len v blk hb hm hv =>
    obtain ⟨blk', hb', hk⟩ := h.blk b blk hb
    refine .sl b g i len v blk' hb' ?_ hv
    cases blk' with
    | dead => trivial
    | box cs' => cases blk <;> first | exact hk.elim | exact hm
    | iter s' p' => cases blk <;> first | exact hk.elim | exact hm
    | arr e' s' z' g' l' =>
      cases blk with
      | dead => exact hk.elim
      | box => exact hk.elim
      | iter => exact hk.elim
      | arr e s z g0 l =>
        obtain ⟨rfl, rfl, rfl, _, hg, hk⟩ := hk
        refine ⟨Nat.le_trans hm.1 hg, fun he => ?_⟩
        have hgg : g0 = g' := by have := hm.1; omega
        obtain ⟨hl, hk⟩ := hk hgg
        obtain ⟨h1, h2⟩ := hm.2 (by omega)
        refine ⟨by omega, ?_⟩
        have hnil : l.length = 0 ↔ l'.length = 0 := by rw [hl]
        rcases h2 with ⟨z1, l1, v1⟩ | ⟨z1, l1, v1⟩ | ⟨z1, cb, cap, off, h3, h4, h5, h6⟩
        · exact .inl ⟨z1, hnil.1 l1, v1⟩
        · exact .inr (.inl ⟨z1, hnil.1 l1, v1⟩)
        · exact .inr <| .inr ⟨fun hh => z1 ⟨hh.1, hnil.2 hh.2⟩, cb, cap, off, (hk cb h3).1, h4, by rw [(hk cb h3).2]; exact h5, h6⟩
  | agg cs vs hl h1 _ ih => exact .agg cs vs hl h1 ih
  | tup cs vs hl _ ih => exact .tup cs vs hl ih
  | fn f a b x y ha hb _ _ iha ihb => exact .fn f a b x y ha hb iha ihb
  | ifc t x v _ ih => exact .ifc t x v ih
  | emp ad => exact .emp ad
  | junk v => exact .junk v

theorem RA.ev {w c H w' c' H'} (h : Ev w c H w' c' H') {x : AV} {v : Value} (hr : RA w c H x v) : RA w' c' H' x v := hr.ew h.w

theorem Ev.refl (w : World) (c : Cx) (H : AH) : Ev w c H w c H := by
  refine ⟨rfl, Nat.le_refl _, fun b blk hb => ⟨blk, hb, ?_⟩, fun _ h => .inl h, fun _ _ _ => rfl, fun _ _ _ _ h => h⟩
  cases blk with
  | dead => trivial
  | box cs => exact ⟨rfl, fun _ h => h⟩
  | iter s p => exact ⟨rfl, fun _ h => h⟩
  | arr => exact ⟨rfl, rfl, rfl, Nat.le_refl _, Nat.le_refl _, fun _ => ⟨rfl, fun _ h => ⟨h, rfl⟩⟩⟩

theorem goes_fix {w c w' c' b} {blk blk' : Blk} (h : Blk.goes w c w' c' b blk blk') (hf : blk.fix = true) : blk'.fix = true := by
  cases blk' with
  | dead => rfl
  | box => rfl
  | iter => rfl
  | arr e' s' z' g' l' =>
    cases blk with
    | dead => exact h.elim
    | box => exact h.elim
    | iter => exact h.elim
    | arr e s z g l =>
      obtain ⟨_, _, rfl, hl, _⟩ := h
      simp only [Blk.fix, Bool.and_eq_true, Bool.not_eq_true', decide_eq_true_eq] at hf ⊢
      exact ⟨hf.1, by omega⟩

theorem Ev.late2 {w c H w1 c1 H1 w2 c2 H2} (h : Ev w c H w1 c1 H1) (k : Ev w1 c1 H1 w2 c2 H2) : ∀ b blk, H[b]? = some blk → blk.fix = true → c.G b = none → c2.G b = none := by
  intro b blk hb ha hg
  obtain ⟨blk1, hb1, hk1⟩ := h.blk b blk hb
  exact k.late b blk1 hb1 (goes_fix hk1 ha) (h.late b blk hb ha hg)

theorem Ew.trans {w c H w1 c1 H1 w2 c2 H2} (h : Ew w c H w1 c1 H1) (k : Ew w1 c1 H1 w2 c2 H2) : Ew w c H w2 c2 H2 := by
  refine ⟨k.F.trans h.F, Nat.le_trans h.size k.size, fun b blk hb => ?_, fun cb hm => ?_, fun cb hlt hm => ?_⟩
  · obtain ⟨blk1, hb1, hk1⟩ := h.blk b blk hb
    obtain ⟨blk2, hb2, hk2⟩ := k.blk b blk1 hb1
    refine ⟨blk2, hb2, ?_⟩
    cases blk2 with
    | dead => trivial
    | box cs2 =>
      cases blk1 with
      | dead => exact hk2.elim
      | arr => exact hk2.elim
      | iter => exact hk2.elim
      | box cs1 =>
        cases blk with
        | dead => exact hk1.elim
        | arr => exact hk1.elim
        | iter => exact hk1.elim
        | box cs => exact ⟨hk1.1.trans hk2.1, fun cb hc => hk2.2 cb (hk1.2 cb hc)⟩
    | iter s2 p2 =>
      cases blk1 with
      | dead => exact hk2.elim
      | arr => exact hk2.elim
      | box => exact hk2.elim
      | iter s1 p1 =>
        cases blk with
        | dead => exact hk1.elim
        | arr => exact hk1.elim
        | box => exact hk1.elim
        | iter s p => exact ⟨hk2.1.trans hk1.1, fun cb hc => hk2.2 cb (hk1.2 cb hc)⟩
    | arr e2 s2 z2 g2 l2 =>
      cases blk1 with
      | dead => exact hk2.elim
      | box => exact hk2.elim
      | iter => exact hk2.elim
      | arr e1 s1 z1 g1 l1 =>
        cases blk with
        | dead => exact hk1.elim
        | box => exact hk1.elim
        | iter => exact hk1.elim
        | arr e s z g l =>
          obtain ⟨rfl, rfl, rfl, a0, a1, a2⟩ := hk1
          obtain ⟨rfl, rfl, rfl, b0, b1, b2⟩ := hk2
          refine ⟨rfl, rfl, rfl, Nat.le_trans a0 b0, Nat.le_trans a1 b1, fun he => ?_⟩
          have e1 : g = g1 := by omega
          have e2 : g1 = g2 := by omega
          obtain ⟨a3, a4⟩ := a2 e1
          obtain ⟨b3, b4⟩ := b2 e2
          refine ⟨by omega, fun cb hc => ?_⟩
          obtain ⟨a5, a6⟩ := a4 cb hc
          obtain ⟨b5, b6⟩ := b4 cb a5
          exact ⟨b5, b6.trans a6⟩
  · rcases k.muts cb hm with h1 | h1
    · exact h.muts cb h1
    · exact .inr (Nat.le_trans h.size h1)
  · have h1 := h.mem cb hlt hm
    have h2 : ¬ c1.M H1 cb := fun hh => (h.muts cb hh).elim hm (fun h => by omega)
    exact (k.mem cb (Nat.lt_of_lt_of_le hlt h.size) h2).trans h1

theorem Ev.of {w c H w' c' H'} (h : Ew w c H w' c' H') (hl : ∀ b blk, H[b]? = some blk → blk.fix = true → c.G b = none → c'.G b = none) : Ev w c H w' c' H' := ⟨h.F, h.size, h.blk, h.muts, h.mem, hl⟩

theorem Ev.trans {w c H w1 c1 H1 w2 c2 H2} (h : Ev w c H w1 c1 H1) (k : Ev w1 c1 H1 w2 c2 H2) : Ev w c H w2 c2 H2 := .of (h.w.trans k.w) (Ev.late2 h k)

/-- A step that gives places to new blocks alone. -/
theorem Ev.transW {w c H w1 c1 H1 w2 c2 H2} (h : Ev w c H w1 c1 H1) (k : Ew w1 c1 H1 w2 c2 H2) (hl : ∀ b, b < H.length → c1.G b = none → c2.G b = none) : Ev w c H w2 c2 H2 :=
  .of (h.w.trans k) fun b blk hb hf hg => hl b (by
    rcases Nat.lt_or_ge b H.length with h1 | h1
    · exact h1
    · simp [List.getElem?_eq_none h1] at hb) (h.late b blk hb hf hg)

end Go.Proofs.YthpkehhghcpolaaDoor
