/-
  The ground of the walks of this seat, part Fa.
-/
import Derived.Laws.AppendOwn
import Derived.Below
import Derived.Laws.RangeString
import Derived.Deep.DeepAppendWide
import Derived.Laws.CopyRow
import Derived.Laws.StructEq
import Derived.Laws.Strings
import Derived.Laws.Unary
import Derived.WalkSpells
import Derived.Laws.Build
import Derived.Laws.Slices
import Derived.Laws.MakeOwn
import Derived.Laws.BytesArg
import Derived.IntWalk
namespace Go.Proofs.YthpkehhghcpolaaDoor
open Go.RowKit
set_option linter.unusedVariables false

/-- Plain data that nobody writes while it is looked at. -/
inductive T where
  | bool (b : Bool) | int (k : IntKind) (n : Int) | str (s : List UInt8)
  | nilp | nils | nilf | nili
  | iptr (cells : List T)
  | vec (s : Nat) (l : List T)
  | agg (cs : List T)
  | fn (f : Fn) (first captured : List T)
  | ifc (t : TypeId) (v : T)
  | vecd (s : Nat) (l : List T)

def T.cells : T → List T
  | .agg cs => cs
  | v => [v]

/-- Is it the value of one cell? -/
def T.one : T → Bool
  | .agg _ => false
  | _ => true

/-- 'x' is read at 'v' in the world 'w', in blocks that aren't in 'M'. -/
inductive RT (w : World) (M : Nat → Prop) : T → Value → Prop
  | bool (b) : RT w M (.bool b) (.bool b)
  | int (k n) : RT w M (.int k n) (.int k n)
  | str (s : ByteArray) : RT w M (.str s.data.toList) (.string s)
  | nilp : RT w M .nilp (.pointer none)
  | nils : RT w M .nils (.slice none 0 0)
  | nilf : RT w M .nilf .nilFunc
  | nili : RT w M .nili .nilIface
  | iptr (cells : List T) (b off : Nat) (vals : Nat → Value) (hM : cells ≠ [] → ¬ M b)
      (hc : ∀ (i : Nat) c, cells[i]? = some c → w.cell? ⟨b, off + i, none⟩ = some (vals i) ∧ c.one = true)
      (hr : ∀ (i : Nat) c, cells[i]? = some c → RT w M c (vals i)) : RT w M (.iptr cells) (.pointer (some ⟨b, off, none⟩))
  | vec (s : Nat) (l : List T) (b off cap : Nat) (sp : Option Nat) (vals : Nat → Nat → Value) (hM : l ≠ [] → 0 < s → ¬ M b) (hcap : l.length ≤ cap) (hsp : l ≠ [] → sp = none)
      (hs : ∀ (i : Nat) e, l[i]? = some e → e.cells.length = s)
      (hc : ∀ (i : Nat) e (j : Nat) c, l[i]? = some e → e.cells[j]? = some c → w.cell? ⟨b, off + i * s + j, none⟩ = some (vals i j) ∧ c.one = true)
      (hr : ∀ (i : Nat) e (j : Nat) c, l[i]? = some e → e.cells[j]? = some c → RT w M c (vals i j)) :
      RT w M (.vec s l) (.slice (some ⟨b, off, sp⟩) l.length cap)
  | agg (cs : List T) (vs : Array Value) (hl : cs.length = vs.size) (h1 : ∀ (i : Nat) c, cs[i]? = some c → c.one = true)
      (hr : ∀ (i : Nat) c v, cs[i]? = some c → vs[i]? = some v → RT w M c v) : RT w M (.agg cs) (.agg vs)
  | fn (f : Fn) (first captured : List T) (a b : Array Value) (ha : first.length = a.size) (hb : captured.length = b.size)
      (hra : ∀ (i : Nat) c v, first[i]? = some c → a[i]? = some v → RT w M c v)
      (hrb : ∀ (i : Nat) c v, captured[i]? = some c → b[i]? = some v → RT w M c v) : RT w M (.fn f first captured) (.func f a b)
  | ifc (t : TypeId) (x : T) (v : Value) (h : RT w M x v) : RT w M (.ifc t x) (.iface t v)
  | vecd0 (s : Nat) : RT w M (.vecd s []) (.slice none 0 0)
  | vecd (s : Nat) (l : List T) (v : Value) (h : RT w M (.vec s l) v) : RT w M (.vecd s l) v

/-- What is read stays, as long as the blocks out of M stay and none comes into M but new ones. -/
theorem RT.mono {w w' : World} {M M' : Nat → Prop} (hb : ∀ b, b < w.heap.size → ¬ M b → w'.heap[b]? = w.heap[b]? ∧ ¬ M' b)
    {x : T} {v : Value} (h : RT w M x v) : RT w' M' x v := by
  have cell : ∀ {b o : Nat} {u : Value}, ¬ M b → w.cell? ⟨b, o, none⟩ = some u → w'.cell? ⟨b, o, none⟩ = some u := by
    intro b o u hm hc
    have hlt := World.block_lt_of_cell? w _ hc
    exact (World.cell?_of_block (w := w) (w' := w') (a := ⟨b, o, none⟩) (hb b hlt hm).1).trans hc
  induction h with
  | bool b => exact .bool b
  | int k n => exact .int k n
  | str s => exact .str s
  | nilp => exact .nilp
  | nils => exact .nils
  | nilf => exact .nilf
  | nili => exact .nili
  | iptr cells b off vals hM0 hc _ ih =>
    refine .iptr cells b off vals (fun hne => ?_) (fun i c hi => ⟨cell (hM0 ?_) (hc i c hi).1, (hc i c hi).2⟩) ih
    · obtain ⟨c, r, rfl⟩ := List.exists_cons_of_ne_nil hne
      exact (hb b (World.block_lt_of_cell? w _ (hc 0 c rfl).1) (hM0 hne)).2
    · intro e; simp [e] at hi
  | vec s l b off cap sp vals hM0 hcap hsp hs hc _ ih =>
    refine .vec s l b off cap sp vals (fun hne hp => ?_) hcap hsp hs (fun i e j c hi hj => ⟨cell (hM0 ?_ ?_) (hc i e j c hi hj).1, (hc i e j c hi hj).2⟩) ih
    · obtain ⟨e, r, rfl⟩ := List.exists_cons_of_ne_nil hne
      have h1 := hs 0 e rfl
      have h2 : e.cells[0]? = some (e.cells[0]'(by omega)) := List.getElem?_eq_getElem _
      exact (hb b (World.block_lt_of_cell? w _ (hc 0 e 0 _ rfl h2).1) (hM0 hne hp)).2
    · intro e; simp [e] at hi
    · have h1 := hs i e hi
      have h2 : j < e.cells.length := by
        rcases Nat.lt_or_ge j e.cells.length with h | h
        · exact h
        · simp [List.getElem?_eq_none h] at hj
      omega
  | agg cs vs hl h1 _ ih => exact .agg cs vs hl h1 ih
  | fn f first captured a b ha hb' _ _ iha ihb => exact .fn f first captured a b ha hb' iha ihb
  | ifc t x v _ ih => exact .ifc t x v ih
  | vecd0 s => exact .vecd0 s
  | vecd s l v _ ih => exact .vecd s l v ih

/-- What a slot holds in a walk. -/
inductive AV where
  | t (x : T)
  | ptr (b g i o : Nat)
  | sl (b g i len : Nat)
  | agg (cs : List AV)
  | tup (vs : List AV)
  | fn (f : Fn) (first captured : List AV)
  | ifc (t : TypeId) (v : AV)
  | own (e s : Nat) (z : Bool) (l : List T)
  | emp
  | junk

/-- A row's elements: plain data, or whatever else. -/
inductive Sq where
  | ts (l : List T)
  | vs (l : List AV)

def Sq.length : Sq → Nat
  | .ts l => l.length
  | .vs l => l.length

def Sq.get : Sq → Nat → Option AV
  | .ts l, i => l[i]?.map .t
  | .vs l, i => l[i]?

def Sq.part : Sq → Nat → Nat → Sq
  | .ts l, i, n => .ts ((l.drop i).take n)
  | .vs l, i, n => .vs ((l.drop i).take n)

def Sq.app : Sq → Sq → Sq
  | .ts a, .ts b => .ts (a ++ b)
  | .ts a, .vs b => .vs (a.map .t ++ b)
  | .vs a, .ts b => .vs (a ++ b.map .t)
  | .vs a, .vs b => .vs (a ++ b)

/-- A row with a part of it put anew. -/
def Sq.put (l : Sq) (o : Nat) (news : Sq) : Sq :=
  match l, news with
  | .ts a, .ts b => .ts (a.take o ++ b ++ a.drop (o + b.length))
  | l, news => ((l.part 0 o).app news).app (l.part (o + news.length) l.length)

/-- A block of the walk's own: one variable; a row of elements that grows ('e' their type, 's' their cells, 'z': it is nil while it is empty, 'g': its length when it was last appended to). -/
inductive Blk where
  | dead
  | box (cells : List AV)
  | arr (e s : Nat) (z : Bool) (g : Nat) (l : Sq)
  | iter (s : List UInt8) (pos : Nat)

def AV.cells : AV → List AV
  | .agg cs => cs
  | .t (.agg cs) => cs.map .t
  | v => [v]

def AV.one : AV → Bool
  | .agg _ => false
  | .tup _ => false
  | .junk => false
  | .own .. => false
  | .t x => x.one
  | _ => true

abbrev AH := List Blk

def AH.at (H : AH) (b : Nat) : Option Blk := H[b]?

/-- A block that keeps its place, once it has one. -/
def Blk.fix : Blk → Bool
  | .arr _ _ z _ l => !z && decide (0 < l.length)
  | _ => true

def Blk.live : Blk → Bool
  | .dead => false
  | _ => true

/-- Where the blocks lie: 'F': what may not be touched, 'G': the block of each block of the walk's own. -/
structure Cx where
  F : Nat → Prop
  G : Nat → Option Nat

def Cx.M (c : Cx) (H : AH) (cb : Nat) : Prop := c.F cb ∨ ∃ b blk, H[b]? = some blk ∧ blk.live = true ∧ c.G b = some cb

/-- The walk's own live blocks. -/
def Cx.O (c : Cx) (H : AH) (cb : Nat) : Prop := ∃ b blk, H[b]? = some blk ∧ blk.live = true ∧ c.G b = some cb

/-- The size, in cells, of a block. -/
def rowSize (w : World) (cb : Nat) : Nat := match w.heap[cb]? with | some (.cells arr _ _) => arr.size | _ => 0

inductive RA (w : World) (c : Cx) (H : AH) : AV → Value → Prop
  | t (x v) (h : RT w (c.M H) x v) : RA w c H (.t x) v
  | ptr (b g i o : Nat) (v : Value) (blk : Blk) (hb : H[b]? = some blk)
      (h : match blk with
        | .dead => True
        | .box _ => ∃ cb, c.G b = some cb ∧ v = .pointer (some ⟨cb, o, none⟩)
        | .iter _ _ => ∃ cb, c.G b = some cb ∧ v = .pointer (some ⟨cb, o, none⟩)
        | .arr _ s _ gen _ => g ≤ gen ∧ (g = gen → ∃ cb, c.G b = some cb ∧ v = .pointer (some ⟨cb, i * s + o, none⟩)))
      (hv : ∃ a, v = .pointer a := by exact ⟨_, rfl⟩) : RA w c H (.ptr b g i o) v
  | sl (b g i len : Nat) (v : Value) (blk : Blk) (hb : H[b]? = some blk)
      (h : match blk with
        | .dead => True
        | .box _ => False
        | .iter _ _ => False
        | .arr _ s z gen l => g ≤ gen ∧ (g = gen → i + len ≤ l.length ∧
            ((z = true ∧ l.length = 0 ∧ v = .slice none 0 0) ∨ (z = false ∧ l.length = 0 ∧ ∃ (ad : Addr), v = .slice (some ad) 0 0) ∨
             (¬ (z = true ∧ l.length = 0) ∧ ∃ cb cap off, c.G b = some cb ∧ v = .slice (some ⟨cb, off, none⟩) len cap ∧ (i + cap) * s = rowSize w cb ∧ len ≤ cap ∧ i + cap ≤ maxLen ∧ (cap = 0 ∨ off = i * s) ∧ (i = 0 → off = 0)))))
      (hv : ∃ a n m, v = .slice a n m := by exact ⟨_, _, _, rfl⟩) : RA w c H (.sl b g i len) v
  | agg (cs : List AV) (vs : Array Value) (hl : cs.length = vs.size) (h1 : ∀ (i : Nat) x, cs[i]? = some x → x.one = true)
      (hr : ∀ (i : Nat) x v, cs[i]? = some x → vs[i]? = some v → RA w c H x v) : RA w c H (.agg cs) (.agg vs)
  | tup (cs : List AV) (vs : Array Value) (hl : cs.length = vs.size)
      (hr : ∀ (i : Nat) x v, cs[i]? = some x → vs[i]? = some v → RA w c H x v) : RA w c H (.tup cs) (.tuple vs)
  | fn (f : Fn) (first captured : List AV) (a b : Array Value) (ha : first.length = a.size) (hb : captured.length = b.size)
      (hra : ∀ (i : Nat) x v, first[i]? = some x → a[i]? = some v → RA w c H x v)
      (hrb : ∀ (i : Nat) x v, captured[i]? = some x → b[i]? = some v → RA w c H x v) : RA w c H (.fn f first captured) (.func f a b)
  | ifc (t : TypeId) (x : AV) (v : Value) (h : RA w c H x v) : RA w c H (.ifc t x) (.iface t v)
  | emp (ad : Addr) : RA w c H .emp (.slice (some ad) 0 0)
  | junk (v) : RA w c H .junk v

/-- The cells of a row. -/
def Rowed (w : World) (c : Cx) (H : AH) (s : Nat) (l : Sq) (arr : Array Value) : Prop :=
  ∀ (i : Nat) x, l.get i = some x → x.cells.length = s ∧ ∀ (j : Nat) y, x.cells[j]? = some y → ∃ v, arr[i * s + j]? = some v ∧ y.one = true ∧ RA w c H y v ∧ v.oneCell' = true

theorem T.cells_t (x : T) : (AV.t x).cells = x.cells.map .t := by cases x <;> rfl

theorem Rowed.ts {w c H s} {l : List T} {arr : Array Value} : Rowed w c H s (.ts l) arr ↔
    ∀ (i : Nat) x, l[i]? = some x → x.cells.length = s ∧ ∀ (j : Nat) y, x.cells[j]? = some y → ∃ v, arr[i * s + j]? = some v ∧ y.one = true ∧ RT w (c.M H) y v ∧ v.oneCell' = true := by
  constructor
  · intro h i x hi
    obtain ⟨h1, h2⟩ := h i (.t x) (by simp [Sq.get, hi])
    rw [T.cells_t] at h1 h2
    refine ⟨by simpa using h1, fun j y hj => ?_⟩
    obtain ⟨v, a1, a2, a3, a4⟩ := h2 j (.t y) (by simp [hj])
    cases a3 with | t _ _ a3 => exact ⟨v, a1, a2, a3, a4⟩
  · intro h i x hi
    simp only [Sq.get, Option.map_eq_some_iff] at hi
    obtain ⟨x, hi, rfl⟩ := hi
    obtain ⟨h1, h2⟩ := h i x hi
    rw [T.cells_t]
    refine ⟨by simpa using h1, fun j y hj => ?_⟩
    simp only [List.getElem?_map, Option.map_eq_some_iff] at hj
    obtain ⟨y, hj, rfl⟩ := hj
    obtain ⟨v, a1, a2, a3, a4⟩ := h2 j y hj
    exact ⟨v, a1, a2, .t _ _ a3, a4⟩

theorem Sq.get_lt {l : Sq} {i : Nat} {x : AV} (h : l.get i = some x) : i < l.length := by
  cases l with
  | ts l =>
    simp only [Sq.get, Option.map_eq_some_iff] at h
    obtain ⟨_, h, _⟩ := h
    rcases Nat.lt_or_ge i l.length with k | k
    · exact k
    · simp [List.getElem?_eq_none k] at h
  | vs l =>
    simp only [Sq.get] at h
    rcases Nat.lt_or_ge i l.length with k | k
    · exact k
    · simp [List.getElem?_eq_none k] at h

theorem Sq.get_of_lt {l : Sq} {i : Nat} (h : i < l.length) : ∃ x, l.get i = some x := by
  cases l with
  | ts l => exact ⟨.t (l[i]'h), by simp only [Sq.get]; rw [List.getElem?_eq_getElem (show i < l.length from h)]; rfl⟩
  | vs l => exact ⟨l[i]'h, List.getElem?_eq_getElem (show i < l.length from h)⟩

theorem Sq.part_length (l : Sq) (i n : Nat) : (l.part i n).length = min n (l.length - i) := by
  cases l <;> simp [Sq.part, Sq.length]

theorem Sq.part_get (l : Sq) (i n k : Nat) : (l.part i n).get k = if k < n then l.get (i + k) else none := by
  cases l <;> simp only [Sq.part, Sq.get, List.getElem?_take, List.getElem?_drop] <;> split <;> simp

theorem Sq.app_length (a b : Sq) : (a.app b).length = a.length + b.length := by
  cases a <;> cases b <;> simp [Sq.app, Sq.length]

theorem Sq.app_get (a b : Sq) (k : Nat) : (a.app b).get k = if k < a.length then a.get k else b.get (k - a.length) := by
  by_cases h : k < a.length
  · rw [if_pos h]
    cases a <;> cases b <;> simp only [Sq.app, Sq.get, Sq.length] at h ⊢ <;> rw [List.getElem?_append_left (by simpa using h)] <;> simp
  · rw [if_neg h]
    cases a <;> cases b <;> simp only [Sq.app, Sq.get, Sq.length] at h ⊢ <;> rw [List.getElem?_append_right (by simpa using h)] <;> simp

theorem Sq.put_eq (l : Sq) (o : Nat) (news : Sq) : (l.put o news).length = ((l.part 0 o).app news |>.app (l.part (o + news.length) l.length)).length ∧ ∀ k, (l.put o news).get k = ((l.part 0 o).app news |>.app (l.part (o + news.length) l.length)).get k := by
  cases l with
  | vs l => exact ⟨rfl, fun _ => rfl⟩
  | ts l =>
    cases news with
    | vs n => exact ⟨rfl, fun _ => rfl⟩
    | ts n =>
      have e : l.drop (o + n.length) = (l.drop (o + n.length)).take l.length := (List.take_of_length_le (by simp)).symm
      constructor
      · simp only [Sq.put, Sq.part, Sq.app, Sq.length, List.drop_zero]
        rw [← e]
      · intro k
        simp only [Sq.put, Sq.part, Sq.app, Sq.get, Sq.length, List.drop_zero]
        rw [← e]

theorem Sq.put_length {l news : Sq} {o : Nat} (h : o + news.length ≤ l.length) : (l.put o news).length = l.length := by
  rw [(Sq.put_eq l o news).1, Sq.app_length, Sq.app_length, Sq.part_length, Sq.part_length]; omega

theorem Sq.put_get {l news : Sq} {o : Nat} (h : o + news.length ≤ l.length) (k : Nat) :
    (l.put o news).get k = if k < o then l.get k else if k < o + news.length then news.get (k - o) else l.get k := by
  rw [(Sq.put_eq l o news).2, Sq.app_get, Sq.app_get, Sq.app_length, Sq.part_length, Sq.part_get, Sq.part_get]
  have e : min o (l.length - 0) = o := by omega
  rw [e]
  by_cases h1 : k < o
  · rw [if_pos (by omega), if_pos h1, if_pos h1, if_pos h1, Nat.zero_add]
  · by_cases h2 : k < o + news.length
    · rw [if_pos h2, if_neg h1, if_neg h1, if_pos h2]
    · rw [if_neg h2, if_neg h1, if_neg h2, show o + news.length + (k - (o + news.length)) = k by omega]
      split
      · rfl
      · rename_i h3
        cases l with
        | ts l => simp only [Sq.length, Sq.get] at h3 ⊢; rw [List.getElem?_eq_none (by omega)]; rfl
        | vs l => simp only [Sq.length, Sq.get] at h3 ⊢; rw [List.getElem?_eq_none (by omega)]

/-- The world holds the blocks of the walk's own. -/
structure HS (w : World) (c : Cx) (H : AH) (B : Nat) : Prop where
  inj : ∀ b b' cb, c.G b = some cb → c.G b' = some cb → b = b'
  base : ∀ b cb, c.G b = some cb → B ≤ cb ∧ cb < w.heap.size
  fb : ∀ cb, c.F cb → cb < w.heap.size ∧ ∀ b, c.G b ≠ some cb
  hB : B ≤ w.heap.size
  dom : ∀ b cb, c.G b = some cb → b < H.length
  box : ∀ b cb cells, H[b]? = some (.box cells) → c.G b = some cb → ∃ arr e, w.heap[cb]? = some (.cells arr e (0, 0)) ∧ arr.size = cells.length ∧
    ∀ (j : Nat) x v, cells[j]? = some x → arr[j]? = some v → x.one = true ∧ RA w c H x v ∧ v.oneCell' = true
  arr : ∀ b cb e s z g l, H[b]? = some (.arr e s z g l) → c.G b = some cb → ∃ arr cap, w.heap[cb]? = some (.cells arr e (0, 0)) ∧ arr.size = cap * s ∧ (l.length ≤ cap ∧ (g % 2 = 1 → l.length = cap)) ∧ cap ≤ maxLen ∧
    Rowed w c H s l arr
  iter : ∀ b cb s p, H[b]? = some (.iter s p) → c.G b = some cb → ∃ bs : ByteArray, w.heap[cb]? = some (.stringIter bs p) ∧ bs.data.toList = s

/-- How a block may go on. -/
def Blk.goes (w : World) (c : Cx) (w' : World) (c' : Cx) (b : Nat) : Blk → Blk → Prop
  | _, .dead => True
  | .box cs, .box cs' => cs.length = cs'.length ∧ ∀ cb, c.G b = some cb → c'.G b = some cb
  | .iter s _, .iter s' _ => s' = s ∧ ∀ cb, c.G b = some cb → c'.G b = some cb
  | .arr e s z g l, .arr e' s' z' g' l' => e' = e ∧ s' = s ∧ z' = z ∧ l.length ≤ l'.length ∧ g ≤ g' ∧ (g = g' → l'.length = l.length ∧ ∀ cb, c.G b = some cb → c'.G b = some cb ∧ rowSize w' cb = rowSize w cb)
  | _, _ => False

/-- How a state may go on. -/
structure Ew (w : World) (c : Cx) (H : AH) (w' : World) (c' : Cx) (H' : AH) : Prop where
  F : c'.F = c.F
  size : w.heap.size ≤ w'.heap.size
  blk : ∀ b blk, H[b]? = some blk → ∃ blk', H'[b]? = some blk' ∧ Blk.goes w c w' c' b blk blk'
  muts : ∀ cb, c'.O H' cb → c.O H cb ∨ w.heap.size ≤ cb
  mem : ∀ cb, cb < w.heap.size → ¬ c.O H cb → w'.heap[cb]? = w.heap[cb]?

/-- The same, and a block that has no place gets none. -/
structure Ev (w : World) (c : Cx) (H : AH) (w' : World) (c' : Cx) (H' : AH) : Prop where
  F : c'.F = c.F
  size : w.heap.size ≤ w'.heap.size
  blk : ∀ b blk, H[b]? = some blk → ∃ blk', H'[b]? = some blk' ∧ Blk.goes w c w' c' b blk blk'
  muts : ∀ cb, c'.O H' cb → c.O H cb ∨ w.heap.size ≤ cb
  mem : ∀ cb, cb < w.heap.size → ¬ c.O H cb → w'.heap[cb]? = w.heap[cb]?
  late : ∀ b blk, H[b]? = some blk → blk.fix = true → c.G b = none → c'.G b = none

theorem Ev.w {w c H w' c' H'} (h : Ev w c H w' c' H') : Ew w c H w' c' H' := ⟨h.F, h.size, h.blk, h.muts, h.mem⟩

theorem Ew.mutsM {w c H w' c' H'} (h : Ew w c H w' c' H') (cb : Nat) (hm : c'.M H' cb) : c.M H cb ∨ w.heap.size ≤ cb := by
  rcases hm with hm | hm
  · rw [h.F] at hm; exact .inl (.inl hm)
  · exact (h.muts cb hm).imp .inr id

theorem Ew.memM {w c H w' c' H'} (h : Ew w c H w' c' H') (cb : Nat) (hlt : cb < w.heap.size) (hm : ¬ c.M H cb) : w'.heap[cb]? = w.heap[cb]? := h.mem cb hlt fun k => hm (.inr k)

theorem Ew.rt {w c H w' c' H'} (h : Ew w c H w' c' H') {x : T} {v : Value} (hr : RT w (c.M H) x v) : RT w' (c'.M H') x v :=
  hr.mono (fun b hlt hM => ⟨h.memM b hlt hM, fun hm => (h.mutsM b hm).elim hM (fun h => by omega)⟩)

theorem Ev.rt {w c H w' c' H'} (h : Ev w c H w' c' H') {x : T} {v : Value} (hr : RT w (c.M H) x v) : RT w' (c'.M H') x v := h.w.rt hr

theorem RA.ew {w c H w' c' H'} (h : Ew w c H w' c' H') {x : AV} {v : Value} (hr : RA w c H x v) : RA w' c' H' x v := by
  induction hr with
  | t x v hx => exact .t x v (h.rt hx)
  | ptr b g i o v blk hb hm hv =>
    obtain ⟨blk', hb', hk⟩ := h.blk b blk hb
    refine .ptr b g i o v blk' hb' ?_ hv
    cases blk' with
    | dead => trivial
    | box cs' =>
      cases blk with
      | dead => exact hk.elim
      | arr => exact hk.elim
      | iter => exact hk.elim
      | box cs => obtain ⟨cb, h1, h2⟩ := hm; exact ⟨cb, hk.2 cb h1, h2⟩
    | iter s' p' =>
      cases blk with
      | dead => exact hk.elim
      | arr => exact hk.elim
      | box => exact hk.elim
      | iter s p => obtain ⟨cb, h1, h2⟩ := hm; exact ⟨cb, hk.2 cb h1, h2⟩
    | arr e' s' z' g' l' =>
      cases blk with
      | dead => exact hk.elim
      | box => exact hk.elim
      | iter => exact hk.elim
      | arr e s z g0 l =>
        obtain ⟨rfl, rfl, rfl, _, hg, hk⟩ := hk
        refine ⟨Nat.le_trans hm.1 hg, fun he => ?_⟩
        have : g0 = g' := by have := hm.1; omega
        obtain ⟨cb, h1, h2⟩ := hm.2 (by omega)
        exact ⟨cb, ((hk this).2 cb h1).1, h2⟩
  | sl b g i len v blk hb hm hv =>
    obtain ⟨blk', hb', hk⟩ := h.blk b blk hb
    refine .sl b g i len v blk' hb' ?_ hv
    cases blk' with
    | dead => trivial
    | box cs' => cases blk <;> first | exact hk.elim | exact hm
    | iter s' p' => cases blk <;> first | exact hk.elim | exact hm
    | arr e' s' z' g' l' =>
      cases blk with
      | dead => exact hk.elim
      | box => exact hk.elim
      | iter => exact hk.elim
      | arr e s z g0 l =>
        obtain ⟨rfl, rfl, rfl, _, hg, hk⟩ := hk
        refine ⟨Nat.le_trans hm.1 hg, fun he => ?_⟩
        have hgg : g0 = g' := by have := hm.1; omega
        obtain ⟨hl, hk⟩ := hk hgg
        obtain ⟨h1, h2⟩ := hm.2 (by omega)
        refine ⟨by omega, ?_⟩
        have hnil : l.length = 0 ↔ l'.length = 0 := by rw [hl]
        rcases h2 with ⟨z1, l1, v1⟩ | ⟨z1, l1, v1⟩ | ⟨z1, cb, cap, off, h3, h4, h5, h6⟩
        · exact .inl ⟨z1, hnil.1 l1, v1⟩
        · exact .inr (.inl ⟨z1, hnil.1 l1, v1⟩)
        · exact .inr <| .inr ⟨fun hh => z1 ⟨hh.1, hnil.2 hh.2⟩, cb, cap, off, (hk cb h3).1, h4, by rw [(hk cb h3).2]; exact h5, h6⟩
  | agg cs vs hl h1 _ ih => exact .agg cs vs hl h1 ih
  | tup cs vs hl _ ih => exact .tup cs vs hl ih
  | fn f a b x y ha hb _ _ iha ihb => exact .fn f a b x y ha hb iha ihb
  | ifc t x v _ ih => exact .ifc t x v ih
  | emp ad => exact .emp ad
  | junk v => exact .junk v

theorem RA.ev {w c H w' c' H'} (h : Ev w c H w' c' H') {x : AV} {v : Value} (hr : RA w c H x v) : RA w' c' H' x v := hr.ew h.w

theorem Ev.refl (w : World) (c : Cx) (H : AH) : Ev w c H w c H := by
  refine ⟨rfl, Nat.le_refl _, fun b blk hb => ⟨blk, hb, ?_⟩, fun _ h => .inl h, fun _ _ _ => rfl, fun _ _ _ _ h => h⟩
  cases blk with
  | dead => trivial
  | box cs => exact ⟨rfl, fun _ h => h⟩
  | iter s p => exact ⟨rfl, fun _ h => h⟩
  | arr => exact ⟨rfl, rfl, rfl, Nat.le_refl _, Nat.le_refl _, fun _ => ⟨rfl, fun _ h => ⟨h, rfl⟩⟩⟩

theorem goes_fix {w c w' c' b} {blk blk' : Blk} (h : Blk.goes w c w' c' b blk blk') (hf : blk.fix = true) : blk'.fix = true := by
  cases blk' with
  | dead => rfl
  | box => rfl
  | iter => rfl
  | arr e' s' z' g' l' =>
    cases blk with
    | dead => exact h.elim
    | box => exact h.elim
    | iter => exact h.elim
    | arr e s z g l =>
      obtain ⟨_, _, rfl, hl, _⟩ := h
      simp only [Blk.fix, Bool.and_eq_true, Bool.not_eq_true', decide_eq_true_eq] at hf ⊢
      exact ⟨hf.1, by omega⟩

theorem Ev.late2 {w c H w1 c1 H1 w2 c2 H2} (h : Ev w c H w1 c1 H1) (k : Ev w1 c1 H1 w2 c2 H2) : ∀ b blk, H[b]? = some blk → blk.fix = true → c.G b = none → c2.G b = none := by
  intro b blk hb ha hg
  obtain ⟨blk1, hb1, hk1⟩ := h.blk b blk hb
  exact k.late b blk1 hb1 (goes_fix hk1 ha) (h.late b blk hb ha hg)

theorem Ew.trans {w c H w1 c1 H1 w2 c2 H2} (h : Ew w c H w1 c1 H1) (k : Ew w1 c1 H1 w2 c2 H2) : Ew w c H w2 c2 H2 := by
  refine ⟨k.F.trans h.F, Nat.le_trans h.size k.size, fun b blk hb => ?_, fun cb hm => ?_, fun cb hlt hm => ?_⟩
  · obtain ⟨blk1, hb1, hk1⟩ := h.blk b blk hb
    obtain ⟨blk2, hb2, hk2⟩ := k.blk b blk1 hb1
    refine ⟨blk2, hb2, ?_⟩
    cases blk2 with
    | dead => trivial
    | box cs2 =>
      cases blk1 with
      | dead => exact hk2.elim
      | arr => exact hk2.elim
      | iter => exact hk2.elim
      | box cs1 =>
        cases blk with
        | dead => exact hk1.elim
        | arr => exact hk1.elim
        | iter => exact hk1.elim
        | box cs => exact ⟨hk1.1.trans hk2.1, fun cb hc => hk2.2 cb (hk1.2 cb hc)⟩
    | iter s2 p2 =>
      cases blk1 with
      | dead => exact hk2.elim
      | arr => exact hk2.elim
      | box => exact hk2.elim
      | iter s1 p1 =>
        cases blk with
        | dead => exact hk1.elim
        | arr => exact hk1.elim
        | box => exact hk1.elim
        | iter s p => exact ⟨hk2.1.trans hk1.1, fun cb hc => hk2.2 cb (hk1.2 cb hc)⟩
    | arr e2 s2 z2 g2 l2 =>
      cases blk1 with
      | dead => exact hk2.elim
      | box => exact hk2.elim
      | iter => exact hk2.elim
      | arr e1 s1 z1 g1 l1 =>
        cases blk with
        | dead => exact hk1.elim
        | box => exact hk1.elim
        | iter => exact hk1.elim
        | arr e s z g l =>
          obtain ⟨rfl, rfl, rfl, a0, a1, a2⟩ := hk1
          obtain ⟨rfl, rfl, rfl, b0, b1, b2⟩ := hk2
          refine ⟨rfl, rfl, rfl, Nat.le_trans a0 b0, Nat.le_trans a1 b1, fun he => ?_⟩
          have e1 : g = g1 := by omega
          have e2 : g1 = g2 := by omega
          obtain ⟨a3, a4⟩ := a2 e1
          obtain ⟨b3, b4⟩ := b2 e2
          refine ⟨by omega, fun cb hc => ?_⟩
          obtain ⟨a5, a6⟩ := a4 cb hc
          obtain ⟨b5, b6⟩ := b4 cb a5
          exact ⟨b5, b6.trans a6⟩
  · rcases k.muts cb hm with h1 | h1
    · exact h.muts cb h1
    · exact .inr (Nat.le_trans h.size h1)
  · have h1 := h.mem cb hlt hm
    have h2 : ¬ c1.O H1 cb := fun hh => (h.muts cb hh).elim hm (fun h => by omega)
    exact (k.mem cb (Nat.lt_of_lt_of_le hlt h.size) h2).trans h1

theorem Ev.of {w c H w' c' H'} (h : Ew w c H w' c' H') (hl : ∀ b blk, H[b]? = some blk → blk.fix = true → c.G b = none → c'.G b = none) : Ev w c H w' c' H' := ⟨h.F, h.size, h.blk, h.muts, h.mem, hl⟩

theorem Ev.trans {w c H w1 c1 H1 w2 c2 H2} (h : Ev w c H w1 c1 H1) (k : Ev w1 c1 H1 w2 c2 H2) : Ev w c H w2 c2 H2 := .of (h.w.trans k.w) (Ev.late2 h k)

/-- A step that gives places to new blocks alone. -/
theorem Ev.transW {w c H w1 c1 H1 w2 c2 H2} (h : Ev w c H w1 c1 H1) (k : Ew w1 c1 H1 w2 c2 H2) (hl : ∀ b, b < H.length → c1.G b = none → c2.G b = none) : Ev w c H w2 c2 H2 :=
  .of (h.w.trans k) fun b blk hb hf hg => hl b (by
    rcases Nat.lt_or_ge b H.length with h1 | h1
    · exact h1
    · simp [List.getElem?_eq_none h1] at hb) (h.late b blk hb hf hg)

end Go.Proofs.YthpkehhghcpolaaDoor

namespace Go.Proofs.YthpkehhghcpolaaDoor
set_option linter.unusedVariables false

/-! ### Types, as the walk looks at them -/

def ofV1 : Value → Option T
  | .bool b => some (.bool b)
  | .int k n => some (.int k n)
  | .string s => some (.str s.data.toList)
  | .pointer none => some .nilp
  | .slice none 0 0 => some .nils
  | .nilFunc => some .nilf
  | .nilIface => some .nili
  | _ => none

def ofVs : List Value → Option (List T)
  | [] => some []
  | v :: r => match ofV1 v, ofVs r with | some x, some l => some (x :: l) | _, _ => none

def ofV : Value → Option T
  | .agg cs => (ofVs cs.toList).map .agg
  | v => ofV1 v

structure TyI where
  d : TypeDesc
  size : Nat
  bytes : Nat
  zero : Option (List T)
  eqOK : Prop

/-- The types, and whether the walk stops at each number that is reckoned. -/
structure Tab where
  f : TypeId → Option TyI
  stop : Bool

instance : CoeFun Tab (fun _ => TypeId → Option TyI) := ⟨Tab.f⟩

def mkTabF (P : Program) : TypeId → Option TyI := fun t =>
  match P.info? t, P.underlying t with
  | some i, some d => some { d, size := i.size, bytes := i.bytes, zero := i.zero.bind fun z => ofVs z.cells.toList, eqOK := P.stoodInHeld t = false ∧ P.eqGuardType P.depth t = false }
  | _, _ => none

def mkTab (P : Program) : Tab := ⟨mkTabF P, false⟩
def mkTabS (P : Program) : Tab := ⟨mkTabF P, true⟩

structure TyI.fits (P : Program) (t : TypeId) (y : TyI) : Prop where
  d : P.underlying t = some y.d
  info : ∃ i, P.info? t = some i ∧ i.size = y.size ∧ i.bytes = y.bytes ∧ ∀ l, y.zero = some l → ∃ z, i.zero = some z ∧ ofVs z.cells.toList = some l
  eq : y.eqOK → P.stoodInHeld t = false ∧ P.eqGuardType P.depth t = false

def TabOK (P : Program) (tab : Tab) : Prop := ∀ t y, tab t = some y → y.fits P t

theorem mkTabF_ok (P : Program) : ∀ t y, mkTabF P t = some y → y.fits P t := by
  intro t y h
  unfold mkTabF at h
  split at h
  · rename_i i d hi hd
    cases h
    refine ⟨hd, ⟨i, hi, rfl, rfl, fun l hl => ?_⟩, fun h => h⟩
    cases hz : i.zero with
    | none => simp [hz] at hl
    | some z => exact ⟨z, rfl, by simpa [hz] using hl⟩
  · cases h

theorem mkTab_ok (P : Program) : TabOK P (mkTab P) := mkTabF_ok P
theorem mkTabS_ok (P : Program) : TabOK P (mkTabS P) := mkTabF_ok P

def TyI.isAgg (y : TyI) : Bool :=
  match y.d with
  | .struct _ => true
  | .array _ _ => true
  | _ => false

/-! ### The pieces of which a walk's goal is made -/

/-- Two ways. -/
abbrev Br (c : Bool) (p q : Prop) : Prop := @Bool.rec (fun _ => Prop) q p c
/-- It must hold. -/
abbrev Ck (c : Bool) (p : Prop) : Prop := @Bool.rec (fun _ => Prop) False p c
/-- It must be there. -/
abbrev Opt {α : Type} (o : Option α) (K : α → Prop) : Prop := @Option.rec α (fun _ => Prop) False K o

theorem br_intro {c : Bool} {p q : Prop} (h : c = true → p) (k : c = false → q) : Br c p q := by
  cases c
  · exact k rfl
  · exact h rfl

theorem ck_intro {c : Bool} {p : Prop} (h : c = true) (k : p) : Ck c p := by subst h; exact k

theorem opt_intro {α : Type} {o : Option α} {K : α → Prop} {a : α} (h : o = some a) (k : K a) : Opt o K := by subst h; exact k

theorem ck_iff {c : Bool} {p : Prop} : Ck c p ↔ c = true ∧ p := by cases c <;> simp

theorem opt_iff {α : Type} {o : Option α} {K : α → Prop} : Opt o K ↔ ∃ a, o = some a ∧ K a := by cases o <;> simp

theorem br_iff {c : Bool} {p q : Prop} : Br c p q ↔ (c = true ∧ p) ∨ (c = false ∧ q) := by cases c <;> simp

/-- A number that was reckoned: where 'st' says so, the walk stops at it (unless it is a literal). -/
def stopI (st : Bool) (n : Int) : Option Int :=
  match st with
  | false => some n
  | true => match Nat.beq n.natAbs n.natAbs with | true => some n | false => none

theorem stopI_eq (st : Bool) (n : Int) : stopI st n = some n := by
  cases st with
  | false => rfl
  | true => simp only [stopI, Nat.beq_refl]

theorem stop_iff {st : Bool} {n : Int} {K : Int → Prop} : Opt (stopI st n) K ↔ K n := by rw [stopI_eq]

/-- The number is this one. -/
theorem st_intro {st : Bool} {e n : Int} {K : Int → Prop} (h : e = n) (k : K n) : Opt (stopI st e) K := by subst h; exact stop_iff.2 k

/-! ### States -/

def lk : List (Nat × AV) → Nat → AV
  | [], _ => .junk
  | (a, v) :: r, k => match Nat.beq a k with | true => v | false => lk r k

structure St where
  env : List (Nat × AV)
  H : AH

def ofVal (v : Value) : AV :=
  match ofV v with
  | some x => .t x
  | none => .junk

def opd (env : List (Nat × AV)) : Operand → AV
  | .tmp t => lk env t
  | .const v => ofVal v
  | .global _ => .junk
  | .func f => .t (.fn (.func f) [] [])

def isConst : Operand → Bool
  | .const _ => true
  | _ => false

def St.put (s : St) (d : Option Tmp) (v : AV) (H : AH) : St :=
  match d with
  | some d => ⟨(d, v) :: s.env, H⟩
  | none => ⟨s.env, H⟩

/-! ### Reckoned at once, not later -/

def selL : List Nat → Nat → (Nat → Prop) → Prop
  | [], n, K => K n
  | k :: r, n, K => match Nat.beq n k with | true => K k | false => selL r n K

def foN (n : Nat) (K : Nat → Prop) : Prop := selL [0, 1, 2, 3, 4, 5, 6, 7, 8, 9, 10, 11, 12, 13, 14, 15, 16, 17, 18, 19, 20, 21, 22, 23, 24, 25, 26, 27, 28, 29, 30, 31, 32] n K

def foK (k : IntKind) (K : IntKind → Prop) : Prop :=
  match k with
  | .i8 => K .i8 | .i16 => K .i16 | .i32 => K .i32 | .i64 => K .i64 | .u8 => K .u8 | .u16 => K .u16 | .u32 => K .u32 | .u64 => K .u64

def foT (x : T) (K : T → Prop) : Prop :=
  match x with
  | .bool b => K (.bool b)
  | .int k n => foK k fun k => K (.int k n)
  | .str s => K (.str s)
  | .nilp => K .nilp | .nils => K .nils | .nilf => K .nilf | .nili => K .nili
  | .iptr cs => K (.iptr cs)
  | .vec s l => K (.vec s l)
  | .agg cs => K (.agg cs)
  | .fn f a b => K (.fn f a b)
  | .ifc t v => K (.ifc t v)
  | .vecd s l => K (.vecd s l)

/-- The head of a value of the walk. -/
def foA (x : AV) (K : AV → Prop) : Prop :=
  match x with
  | .t x => foT x fun x => K (.t x)
  | .ptr b g i o => foN b fun b => foN g fun g => foN o fun o => K (.ptr b g i o)
  | .sl b g i n => foN b fun b => foN g fun g => K (.sl b g i n)
  | .agg cs => K (.agg cs)
  | .tup vs => K (.tup vs)
  | .fn f a b => K (.fn f a b)
  | .ifc t v => K (.ifc t v)
  | .own e s z l => K (.own e s z l)
  | .emp => K .emp
  | .junk => K .junk

def foL : List AV → (List AV → Prop) → Prop
  | [], K => K []
  | x :: r, K => foA x fun x => foL r fun r => K (x :: r)

def foV (x : AV) (K : AV → Prop) : Prop :=
  match x with
  | .agg cs => foL cs fun cs => K (.agg cs)
  | .tup cs => foL cs fun cs => K (.tup cs)
  | .fn f a b => foL a fun a => foL b fun b => K (.fn f a b)
  | x => foA x K

def foB (b : Blk) (K : Blk → Prop) : Prop :=
  match b with
  | .dead => K .dead
  | .box cells => foL cells fun cells => K (.box cells)
  | .arr e s z g l => foN s fun s => foN g fun g => (match z with | true => K (.arr e s true g l) | false => K (.arr e s false g l))
  | .iter s p => K (.iter s p)

def foH : AH → (AH → Prop) → Prop
  | [], K => K []
  | b :: r, K => foB b fun b => foH r fun r => K (b :: r)

def stp (s : St) (d : Option Tmp) (v : AV) (H : AH) (K : St → Prop) : Prop :=
  foV v fun v => foH H fun H =>
  match s, d with
  | ⟨env, _⟩, some d => K ⟨(d, v) :: env, H⟩
  | ⟨env, _⟩, none => K ⟨env, H⟩

theorem selL_eq (n : Nat) (K : Nat → Prop) : ∀ l : List Nat, selL l n K = K n
  | [] => rfl
  | k :: r => by
    simp only [selL]
    cases h : Nat.beq n k with
    | true => rw [Nat.eq_of_beq_eq_true h]
    | false => exact selL_eq n K r

theorem foN_eq (n : Nat) (K : Nat → Prop) : foN n K = K n := selL_eq n K _
theorem foK_eq (k : IntKind) (K : IntKind → Prop) : foK k K = K k := by cases k <;> rfl
theorem foT_eq (x : T) (K : T → Prop) : foT x K = K x := by cases x <;> simp only [foT, foK_eq]
theorem foA_eq (x : AV) (K : AV → Prop) : foA x K = K x := by
  cases x <;> simp only [foA, foT_eq, foN_eq]
theorem foL_eq : ∀ (l : List AV) (K : List AV → Prop), foL l K = K l
  | [], K => rfl
  | x :: r, K => by simp only [foL, foA_eq, foL_eq r]
theorem foV_eq (x : AV) (K : AV → Prop) : foV x K = K x := by
  cases x <;> simp only [foV, foA_eq, foL_eq]
theorem foB_eq (b : Blk) (K : Blk → Prop) : foB b K = K b := by
  cases b with
  | dead => rfl
  | box cells => simp only [foB, foL_eq]
  | arr e s z g l => cases z <;> simp only [foB, foN_eq]
  | iter s p => simp only [foB]
theorem foH_eq : ∀ (l : AH) (K : AH → Prop), foH l K = K l
  | [], K => rfl
  | x :: r, K => by simp only [foH, foB_eq, foH_eq r]
theorem stp_eq (s : St) (d : Option Tmp) (v : AV) (H : AH) (K : St → Prop) : stp s d v H K = K (s.put d v H) := by
  cases d <;> simp only [stp, foV_eq, foH_eq, St.put]

def kix : IntKind → Nat
  | .i8 => 0 | .i16 => 1 | .i32 => 2 | .i64 => 3 | .u8 => 4 | .u16 => 5 | .u32 => 6 | .u64 => 7

def sameK (a b : IntKind) : Bool := Nat.beq (kix a) (kix b)

theorem sameK_eq {a b : IntKind} (h : sameK a b = true) : a = b := by cases a <;> cases b <;> first | rfl | (simp [sameK, kix] at h)

def bitsOp (op : BinOp) (k : IntKind) (a b : Int) : Int :=
  let x := BitVec.ofInt k.bits a
  let y := BitVec.ofInt k.bits b
  match op with
  | .and => k.wrap ((x &&& y).toNat : Int)
  | .or => k.wrap ((x ||| y).toNat : Int)
  | .xor => k.wrap ((x ^^^ y).toNat : Int)
  | _ => k.wrap ((x &&& ~~~y).toNat : Int)

/-- Two integers of one kind (shifts: of any two). -/
def xint (st : Bool) (op : BinOp) (k : IntKind) (a : Int) (k' : IntKind) (b : Int) (K : T → Prop) : Prop :=
  match op with
  | .shl => Ck (decide (0 ≤ b)) (Opt (stopI st (k.wrap (a * 2 ^ (min b.toNat k.bits)))) fun n => K (.int k n))
  | .shr => Ck (decide (0 ≤ b)) (Opt (stopI st (a.fdiv (2 ^ (min b.toNat k.bits)))) fun n => K (.int k n))
  | .add => Ck (sameK k k') (Opt (stopI st (k.wrap (a + b))) fun n => K (.int k n))
  | .sub => Ck (sameK k k') (Opt (stopI st (k.wrap (a - b))) fun n => K (.int k n))
  | .mul => Ck (sameK k k') (Opt (stopI st (k.wrap (a * b))) fun n => K (.int k n))
  | .quo => Ck (sameK k k') (Ck (!decide (b = 0)) (Opt (stopI st (k.wrap (a.tdiv b))) fun n => K (.int k n)))
  | .rem => Ck (sameK k k') (Ck (!decide (b = 0)) (Opt (stopI st (a.tmod b)) fun n => K (.int k n)))
  | .and => Ck (sameK k k') (Opt (stopI st (bitsOp .and k a b)) fun n => K (.int k n))
  | .or => Ck (sameK k k') (Opt (stopI st (bitsOp .or k a b)) fun n => K (.int k n))
  | .xor => Ck (sameK k k') (Opt (stopI st (bitsOp .xor k a b)) fun n => K (.int k n))
  | .andNot => Ck (sameK k k') (Opt (stopI st (bitsOp .andNot k a b)) fun n => K (.int k n))
  | .eql => Ck (sameK k k') (K (.bool (a == b)))
  | .neq => Ck (sameK k k') (K (.bool (a != b)))
  | .lss => Ck (sameK k k') (K (.bool (decide (a < b))))
  | .leq => Ck (sameK k k') (K (.bool (decide (a ≤ b))))
  | .gtr => Ck (sameK k k') (K (.bool (decide (a > b))))
  | .geq => Ck (sameK k k') (K (.bool (decide (a ≥ b))))

def xstr (op : BinOp) (a b : List UInt8) (K : T → Prop) : Prop :=
  match op with
  | .add => Ck (decide (a.length + b.length ≤ 9223372036854775807)) (K (.str (a ++ b)))
  | .eql => K (.bool (a == b))
  | .neq => K (.bool (!(a == b)))
  | .lss => K (.bool (Op.bytesLess a b))
  | .leq => K (.bool (Op.bytesLess a b || a == b))
  | .gtr => K (.bool (!(Op.bytesLess a b || a == b)))
  | .geq => K (.bool (!(Op.bytesLess a b)))
  | _ => False

/-- Equal, of one-cell data that isn't memory. -/
def eq1 : T → T → Option Bool
  | .bool a, .bool b => some (a == b)
  | .int k a, .int k' b => match sameK k k' with | true => some (a == b) | false => none
  | .str a, .str b => some (a == b)
  | _, _ => none

def tyIs1 : TypeDesc → T → Bool
  | .bool, .bool _ => true
  | .int _, .int _ _ => true
  | .string, .str _ => true
  | _, _ => false

/-- The cells of a struct, field by field, all of them plain. -/
def eqFs (tab : Tab) (xs ys : List T) : List Field → Option Bool
  | [] => some true
  | f :: r =>
    match tab f.type, xs[f.offset]?, ys[f.offset]? with
    | some y, some a, some b =>
      match tyIs1 y.d a && tyIs1 y.d b && !decide (f.name = "_"), eq1 a b, eqFs tab xs ys r with
      | true, some p, some q => some (p && q)
      | _, _, _ => none
    | _, _, _ => none

def toT1 : AV → Option T
  | .t x => some x
  | _ => none

def toTs : List AV → Option (List T)
  | [] => some []
  | v :: r => match toT1 v, toTs r with | some x, some l => some (x :: l) | _, _ => none

/-- Is it nil? (Where that can be told.) -/
def isNil (H : AH) : AV → Option Bool
  | .t .nilp => some true
  | .t .nils => some true
  | .t .nilf => some true
  | .t .nili => some true
  | .t (.iptr _) => some false
  | .t (.vec _ _) => some false
  | .t (.fn _ _ _) => some false
  | .t (.ifc _ _) => some false
  | .fn _ _ _ => some false
  | .ifc _ _ => some false
  | .emp => some false
  | .ptr b g _ _ =>
    match H[b]? with
    | some (.box _) => some false
    | some (.arr _ _ _ gen _) => match Nat.beq g gen with | true => some false | false => none
    | _ => none
  | .sl b g _ _ =>
    match H[b]? with
    | some (.arr _ _ z gen l) => match Nat.beq g gen with | true => some (z && Nat.beq l.length 0) | false => none
    | _ => none
  | _ => none

def nilTy : TypeDesc → Bool
  | .slice _ => true
  | .pointer _ => true
  | .func _ _ _ => true
  | .interface _ => true
  | _ => false

/-- Is it the nil of that type? -/
def nilFits : TypeDesc → AV → Bool
  | .slice _, .t .nils => true
  | .pointer _, .t .nilp => true
  | .func _ _ _, .t .nilf => true
  | .interface _, .t .nili => true
  | _, _ => false

/-- May it stand where a value of that type stands? -/
def kindFits : TypeDesc → AV → Bool
  | .slice _, .t .nils => true
  | .slice _, .t (.vec _ _) => true
  | .slice _, .sl _ _ _ _ => true
  | .slice _, .emp => true
  | .pointer _, .t .nilp => true
  | .pointer _, .t (.iptr _) => true
  | .pointer _, .ptr _ _ _ _ => true
  | .func _ _ _, .t .nilf => true
  | .func _ _ _, .t (.fn _ _ _) => true
  | .func _ _ _, .fn _ _ _ => true
  | .interface _, .t .nili => true
  | .interface _, .t (.ifc _ _) => true
  | .interface _, .ifc _ _ => true
  | _, _ => false

def isIfaceD : TypeDesc → Bool
  | .interface _ => true
  | _ => false

/-- Equal? ('yc': the second is written as a constant.) -/
def xeq (tab : Tab) (ty : TypeId) (H : AH) (x y : AV) (yc : Bool) (K : Bool → Prop) : Prop :=
  Opt (tab ty) fun i =>
  match x, y with
  | .t (.bool a), .t (.bool b) => Ck (match i.d with | .bool => true | _ => false) (K (a == b))
  | .t (.agg a), .t (.agg b) =>
    match i.d with
    | .struct fs => i.eqOK ∧ Opt (eqFs tab a b fs.toList) K
    | _ => False
  | x, y => Ck (nilTy i.d && nilFits i.d y && kindFits i.d x && (yc || !isIfaceD i.d)) (Opt (isNil H x) K)

/-- All that is data in a struct's cells. -/
def toAgg : AV → AV
  | .agg cs => match toTs cs with | some l => .t (.agg l) | none => .agg cs
  | v => v

def xbin (tab : Tab) (op : BinOp) (ty : TypeId) (H : AH) (x y : AV) (yc : Bool) (K : T → Prop) : Prop :=
  match x, y with
  | .t (.int k a), .t (.int k' b) => xint tab.stop op k a k' b K
  | .t (.str a), .t (.str b) => xstr op a b K
  | x, y =>
    match op with
    | .eql => xeq tab ty H (toAgg x) (toAgg y) yc fun b => K (.bool b)
    | .neq => xeq tab ty H (toAgg x) (toAgg y) yc fun b => K (.bool (!b))
    | _ => False

def xun (st : Bool) (op : UnOp) (x : AV) (K : T → Prop) : Prop :=
  match op, x with
  | .neg, .t (.int k a) => Opt (stopI st (k.wrap (0 - a))) fun n => K (.int k n)
  | .xor, .t (.int k a) => Opt (stopI st (bitsOp .xor k (if k.signed then -1 else k.max) a)) fun n => K (.int k n)
  | .not, .t (.bool b) => K (.bool (!b))
  | _, _ => False

/-! ### Memory -/

/-- The cells of a variable of so many cells, from cell o on. -/
def partA (y : TyI) (cells : List AV) (o : Nat) (K : AV → Prop) : Prop :=
  match y.isAgg with
  | true => Ck (Nat.ble (o + y.size) cells.length) (K (.agg ((cells.drop o).take y.size)))
  | false => Opt cells[o]? K

def partT (y : TyI) (cells : List T) (o : Nat) (K : T → Prop) : Prop :=
  match y.isAgg with
  | true => Ck (Nat.ble (o + y.size) cells.length) (K (.agg ((cells.drop o).take y.size)))
  | false => Opt cells[o]? K

def setAt {α : Type} (l : List α) (o : Nat) : List α → List α
  | [] => l
  | x :: r => setAt (l.set o x) (o + 1) r

def xload (tab : Tab) (ty : TypeId) (H : AH) (a : AV) (K : AV → Prop) : Prop :=
  Opt (tab ty) fun y =>
  match a with
  | .t (.iptr cells) => partT y cells 0 fun x => K (.t x)
  | .ptr b g i o =>
    match H[b]? with
    | some (.box cells) => partA y cells o K
    | some (.arr _ _ _ gen (.ts l)) => Ck (Nat.beq g gen) (Opt l[i]? fun e => partT y e.cells o fun x => K (.t x))
    | some (.arr _ _ _ gen (.vs l)) => Ck (Nat.beq g gen) (Opt l[i]? fun e => partA y e.cells o K)
    | _ => False
  | _ => False

/-- A datum whose cells from o on are others. -/
def setCells (e : T) (o : Nat) (cs : List T) : T :=
  match e with
  | .agg l => .agg (setAt l o cs)
  | _ => match cs with | [c] => c | _ => e

def setCellsA (e : AV) (o : Nat) (cs : List AV) : AV :=
  match e with
  | .agg l => .agg (setAt l o cs)
  | .t (.agg l) => .agg (setAt (l.map .t) o cs)
  | _ => match cs with | [c] => c | _ => e

def xstore (tab : Tab) (ty : TypeId) (H : AH) (a v : AV) (K : AH → Prop) : Prop :=
  Opt (tab ty) fun y =>
  match a with
  | .ptr b g i o =>
    match H[b]? with
    | some (.box cells) => Ck (Nat.beq v.cells.length y.size && Nat.ble (o + y.size) cells.length && v.cells.all AV.one) (K (H.set b (.box (setAt cells o v.cells))))
    | some (.arr e s z gen (.ts l)) =>
      Ck (Nat.beq g gen) (Opt l[i]? fun x =>
        match toTs v.cells with
        | some cs => Ck (Nat.beq cs.length y.size && Nat.ble (o + y.size) x.cells.length && cs.all T.one) (K (H.set b (.arr e s z gen (.ts (l.set i (setCells x o cs))))))
        | none => Ck (Nat.beq v.cells.length y.size && Nat.ble (o + y.size) x.cells.length && v.cells.all AV.one) (K (H.set b (.arr e s z gen (.vs ((l.map .t).set i (setCellsA (.t x) o v.cells)))))))
    | some (.arr e s z gen (.vs l)) =>
      Ck (Nat.beq g gen) (Opt l[i]? fun x =>
        Ck (Nat.beq v.cells.length y.size && Nat.ble (o + y.size) x.cells.length && v.cells.all AV.one) (K (H.set b (.arr e s z gen (.vs (l.set i (setCellsA x o v.cells)))))))
    | _ => False
  | _ => False

def fieldOf (y : TyI) (k : Nat) : Option Field :=
  match y.d with
  | .struct fs => fs[k]?
  | _ => none

def xfieldAddr (tab : Tab) (ty : TypeId) (H : AH) (a : AV) (k : Nat) (K : AV → Prop) : Prop :=
  Opt (tab ty) fun y => Opt (fieldOf y k) fun f => Opt (tab f.type) fun z => Ck (Nat.ble 1 z.size)
  (match a with
    | .t (.iptr cells) => K (.t (.iptr (cells.drop f.offset)))
    | .ptr b g i o =>
      (match H[b]? with
        | some (.box _) => K (.ptr b g i (o + f.offset))
        | some (.arr _ _ _ gen _) => Ck (Nat.beq g gen) (K (.ptr b g i (o + f.offset)))
        | _ => False)
    | _ => False)

def xfield (tab : Tab) (ty : TypeId) (a : AV) (k : Nat) (K : AV → Prop) : Prop :=
  Opt (tab ty) fun y => Opt (fieldOf y k) fun f => Opt (tab f.type) fun z =>
  match a with
  | .t (.agg cs) => partT z cs f.offset fun x => K (.t x)
  | .agg cs => partA z cs f.offset K
  | _ => False

def inB (i : Int) (n : Nat) : Bool := decide (0 ≤ i) && decide (i < (n : Int))

def xindexAddr (tab : Tab) (ty : TypeId) (H : AH) (a : AV) (ix : AV) (K : AV → Prop) : Prop :=
  Opt (tab ty) fun y =>
  match ix with
  | .t (.int _ i) =>
    match y.d, a with
    | .slice e, .t (.vec s l) => Opt (tab e) fun z => Ck (Nat.beq s z.size && decide (0 ≤ i)) (Opt l[i.toNat]? fun x => K (.t (.iptr x.cells)))
    | .slice e, .t (.vecd s l) => Opt (tab e) fun z => Ck (Nat.beq s z.size && decide (0 ≤ i)) (Opt l[i.toNat]? fun x => K (.t (.iptr x.cells)))
    | .slice e, .sl b g j len => Opt (tab e) fun z =>
      (match H[b]? with
        | some (.arr _ s _ gen _) => Ck (Nat.beq g gen && Nat.beq s z.size && inB i len) (K (.ptr b g (j + i.toNat) 0))
        | _ => False)
    | .array n e, .ptr b g j o => Opt (tab e) fun z => Ck (inB i n)
      (match H[b]? with
        | some (.box _) => K (.ptr b g j (o + i.toNat * z.size))
        | some (.arr _ _ _ gen _) => Ck (Nat.beq g gen) (K (.ptr b g j (o + i.toNat * z.size)))
        | _ => False)
    | .array n e, .t (.iptr cells) => Opt (tab e) fun z => Ck (inB i n) (K (.t (.iptr (cells.drop (i.toNat * z.size)))))
    | _, _ => False
  | _ => False

def xindex (tab : Tab) (ty : TypeId) (a : AV) (ix : AV) (K : AV → Prop) : Prop :=
  Opt (tab ty) fun y =>
  match ix with
  | .t (.int _ i) =>
    match y.d, a with
    | .string, .t (.str s) => Ck (decide (0 ≤ i)) (Opt s[i.toNat]? fun c => K (.t (.int .u8 c.toNat)))
    | .array n e, .t (.agg cs) => Opt (tab e) fun z => Ck (inB i n) (partT z cs (i.toNat * z.size) fun x => K (.t x))
    | .array n e, .agg cs => Opt (tab e) fun z => Ck (inB i n) (partA z cs (i.toNat * z.size) K)
    | _, _ => False
  | _ => False

/-- A bound of a slice expression. -/
def xbound (v : Option AV) (dflt : Nat) (most : Nat) (K : Nat → Prop) : Prop :=
  match v with
  | none => K dflt
  | some (.t (.int _ n)) => Ck (decide (0 ≤ n) && decide (n ≤ (most : Int))) (K n.toNat)
  | _ => False

/-- How far a slice can be told anew. -/
def room (gen s i n len : Nat) : Nat := match Nat.beq (gen % 2) 1 && Nat.ble 1 s with | true => len - i | false => n

def xslice (tab : Tab) (ty : TypeId) (H : AH) (a : AV) (lo hi mx : Option AV) (K : AV → Prop) : Prop :=
  Opt (tab ty) fun y =>
  match mx with
  | some m =>
    match y.d, lo, hi, m with
    | .slice e, some (.t (.int _ 0)), some (.t (.int _ 0)), .t (.int _ 0) => Opt (tab e) fun _ =>
      (match a with
      | .t .nils => K (.t .nils)
      | .t (.vec _ _) => K .emp
      | .emp => K .emp
      | .sl b g _ _ =>
        (match H[b]? with
          | some (.arr _ _ z gen l) => Ck (Nat.beq g gen) (Br (z && Nat.beq l.length 0) (K (.t .nils)) (K .emp))
          | _ => False)
      | _ => False)
    | _, _, _, _ => False
  | none =>
    match y.d, a with
    | .string, .t (.str s) => xbound hi s.length s.length fun h => xbound lo 0 h fun l => K (.t (.str ((s.drop l).take (h - l))))
    | .slice e, .t (.vec s l) => Opt (tab e) fun z => Ck (Nat.beq s z.size) (xbound hi l.length l.length fun h => xbound lo 0 h fun o => K (.t (.vec s ((l.drop o).take (h - o)))))
    | .slice e, .t .nils => Opt (tab e) fun _ => xbound hi 0 0 fun h => xbound lo 0 h fun _ => K (.t .nils)
    | .slice e, .t (.vecd s l) => Opt (tab e) fun z => Ck (Nat.beq s z.size) (xbound hi l.length l.length fun h => xbound lo 0 h fun o => K (.t (.vecd s ((l.drop o).take (h - o)))))
    | .slice e, .sl b g i n => Opt (tab e) fun z =>
      (match H[b]? with
        | some (.arr _ s _ gen l) => Ck (Nat.beq g gen && Nat.beq s z.size) (xbound hi n (room gen s i n l.length) fun h => xbound lo 0 h fun o => K (.sl b g (i + o) (h - o)))
        | _ => False)
    | _, _ => False

/-- A struct's or an array's cells, filled part by part. -/
def xfill (place : Nat → Option (Nat × Nat)) (cells : List AV) : List (Nat × AV) → (AV → Prop) → Prop
  | [], K => K (.agg cells)
  | (k, v) :: r, K => Opt (place k) fun p =>
    Ck (Nat.beq v.cells.length p.2 && Nat.ble (p.1 + v.cells.length) cells.length && v.cells.all AV.one) (xfill place (setAt cells p.1 v.cells) r K)

def xbuild (tab : Tab) (ty : TypeId) (parts : List (Nat × AV)) (K : AV → Prop) : Prop :=
  Opt (tab ty) fun y => Opt y.zero fun zs => Ck (zs.all T.one)
  (match y.d with
  | .struct fs => Ck (fs.toList.all fun f => (tab f.type).isSome) (xfill (fun k => fs[k]?.bind fun f => (tab f.type).map fun z => (f.offset, z.size)) (zs.map .t) parts K)
  | .array _ e => Opt (tab e) fun z => xfill (fun k => some (k * z.size, z.size)) (zs.map .t) parts K
  | _ => False)

/-- An element of a literal. -/
def mkElem (s : Nat) (cs : List T) : T :=
  match s, cs with
  | 1, [c] => c
  | _, _ => .agg cs

def mkElemA (s : Nat) (cs : List AV) : AV :=
  match s, cs with
  | 1, [c] => c
  | _, _ => match toTs cs with | some l => .t (.agg l) | none => .agg cs

/-- The elements of a slice literal, all of them given, in order. -/
def elems (s : Nat) (n : Nat) : List (Nat × AV) → Option (List AV)
  | [] => some []
  | (k, v) :: r =>
    match Nat.beq k n && Nat.beq v.cells.length s && v.cells.all AV.one, elems s (n + 1) r with
    | true, some l => some (mkElemA s v.cells :: l)
    | _, _ => none

def seqOf (l : List AV) : Sq :=
  match toTs l with
  | some l => .ts l
  | none => .vs l

def xbuildSlice (tab : Tab) (ty : TypeId) (len : Nat) (parts : List (Nat × AV)) (H : AH) (K : AV → AH → Prop) : Prop :=
  Opt (tab ty) fun y =>
  match y.d with
  | .slice e => Opt (tab e) fun z => Opt (elems z.size 0 parts) fun l =>
    Ck (Nat.beq l.length len && Nat.ble 1 z.size && Nat.ble (len * z.size) 16777216 && z.zero.isSome) (K (.sl H.length 0 0 len) (H ++ [.arr e z.size false 0 (seqOf l)]))
  | _ => False

def xconvert (tab : Tab) (src dst : TypeId) (x : AV) (H : AH) (K : AV → Prop) : Prop :=
  Opt (tab dst) fun y => Opt (tab src) fun w =>
  match y.d, x with
  | .int k, .t (.int _ n) => Opt (stopI tab.stop (k.wrap n)) fun n => K (.t (.int k n))
  | .string, .t (.str s) => K (.t (.str s))
  | .string, .t .nils => (match w.d with | .slice e => Opt (tab e) fun z => (match z.d with | .int .u8 => K (.t (.str [])) | _ => False) | _ => False)
  | .string, .t (.vec s l) => (match w.d with
      | .slice e => Opt (tab e) fun z => (match z.d with | .int .u8 => Ck (Nat.beq s 1) (∃ bs : List UInt8, l = bs.map (fun b => T.int .u8 (b.toNat : Int)) ∧ K (.t (.str bs))) | _ => False)
      | _ => False)
  | .string, .t (.vecd s l) => (match w.d with
      | .slice e => Opt (tab e) fun z => (match z.d with | .int .u8 => Ck (Nat.beq s 1) (∃ bs : List UInt8, l = bs.map (fun b => T.int .u8 (b.toNat : Int)) ∧ K (.t (.str bs))) | _ => False)
      | _ => False)
  | .string, .sl b g i n => (match w.d with
      | .slice e => Opt (tab e) fun z => (match z.d with
        | .int .u8 => (match H[b]? with
          | some (.arr _ s _ gen (.ts l)) => Ck (Nat.beq g gen && Nat.beq s 1) (∃ bs : List UInt8, (l.drop i).take n = bs.map (fun b => T.int .u8 (b.toNat : Int)) ∧ K (.t (.str bs)))
          | _ => False)
        | _ => False)
      | _ => False)
  | _, _ => False

def xmakeSlice (tab : Tab) (ty : TypeId) (len cap : AV) (H : AH) (K : AV → AH → Prop) : Prop :=
  Opt (tab ty) fun y =>
  match y.d, len, cap with
  | .slice e, .t (.int _ n), .t (.int _ c) => Opt (tab e) fun z => Opt z.zero fun zs =>
    Ck (decide (0 ≤ n) && decide (n ≤ c) && decide (c * (z.bytes : Int) ≤ 140737488355328) && decide (c ≤ 9223372036854775807) && Nat.ble 1 z.size && Nat.beq zs.length z.size && zs.all T.one)
      (Br (decide (n < c)) (K (.sl H.length 1 0 n.toNat) (H ++ [.arr e z.size false 1 (.ts (List.replicate c.toNat (mkElem z.size zs)))])) (K (.sl H.length 0 0 n.toNat) (H ++ [.arr e z.size false 0 (.ts (List.replicate n.toNat (mkElem z.size zs)))])))
  | _, _, _ => False

def xextract (x : AV) (i : Nat) (K : AV → Prop) : Prop :=
  match x with
  | .tup vs => Opt vs[i]? K
  | _ => False

def xpick (c a b : AV) (K : AV → Prop) : Prop :=
  match c with
  | .t (.bool c) =>
    match a, b with
    | .t (.bool x), .t (.bool y) => K (.t (.bool (cond c x y)))
    | _, _ => Br c (K a) (K b)
  | _ => False

/-- A nil of a slice's type, where a variable gets it: a row that may grow. -/
def xassign (tab : Tab) (ty : TypeId) (x : AV) (H : AH) (K : AV → AH → Prop) : Prop :=
  match x with
  | .t .nils =>
    (match tab ty with
      | some y => (match y.d with
        | .slice e => (match tab e with
          | some z => (match Nat.ble 1 z.size with | true => K (.sl H.length 0 0 0) (H ++ [.arr e z.size true 0 (.ts [])]) | false => K x H)
          | none => K x H)
        | _ => K x H)
      | none => K x H)
  | _ => K x H

/-! ### Builtins -/

def lenA (H : AH) : AV → Option Nat
  | .t (.str s) => some s.length
  | .t (.vec _ l) => some l.length
  | .t (.vecd _ l) => some l.length
  | .t .nils => some 0
  | .sl b g _ n =>
    match H[b]? with
    | some (.arr _ _ _ gen _) => match Nat.beq g gen with | true => some n | false => none
    | _ => none
  | .emp => some 0
  | _ => none

def lenTy : TypeDesc → Bool
  | .string => true
  | .slice _ => true
  | _ => false

def isStrA : AV → Bool
  | .t (.str _) => true
  | _ => false

def isStrD : TypeDesc → Bool
  | .string => true
  | _ => false

def xlen (tab : Tab) (ty : TypeId) (H : AH) (x : AV) (K : AV → Prop) : Prop :=
  Opt (tab ty) fun y =>
  match y.d with
  | .array n _ => K (.t (.int .i64 n))
  | _ => Ck (lenTy y.d && (isStrD y.d == isStrA x)) (Opt (lenA H x) fun n => K (.t (.int .i64 n)))

/-- What is appended: data that stands in memory or in a string. -/
def appended (H : AH) (s : Nat) : AV → Option Sq
  | .t (.str l) => match Nat.beq s 1 with | true => some (.ts (l.map fun c => .int .u8 (c.toNat : Int))) | false => none
  | .t (.vec s' l) => match Nat.beq s s' with | true => some (.ts l) | false => none
  | .t (.vecd s' l) => match Nat.beq s s' with | true => some (.ts l) | false => none
  | .t .nils => some (.ts [])
  | .sl b g i n =>
    match H[b]? with
    | some (.arr _ s' _ gen l) => match Nat.beq g gen && Nat.beq s s' with | true => some (l.part i n) | false => none
    | _ => none
  | .emp => some (.ts [])
  | _ => none

def fitsRow (n bytes : Nat) : Bool := decide (n ≤ 9223372036854775807) && (decide (n * bytes ≤ 140737488355328) || decide ((n + n / 4 + 192) * bytes ≤ 281474976710656))

/-- Is the slice to append to a whole row of the walk's own, as it is now? (Its length may be told in two ways: 'len' must be the row's.) -/
def xappend (tab : Tab) (ty : TypeId) (H : AH) (a x : AV) (K : AV → AH → Prop) : Prop :=
  Opt (tab ty) fun y =>
  match y.d with
  | .slice e => Opt (tab e) fun z => Opt z.zero fun zs => Opt (appended H z.size x) fun news =>
    Ck (Nat.ble 1 z.size && Nat.beq zs.length z.size)
    (match a with
    | .t .nils => Ck (fitsRow news.length z.bytes) (K (.sl H.length 0 0 news.length) (H ++ [.arr e z.size true 0 news]))
    | .emp => Ck (fitsRow news.length z.bytes) (K (.sl H.length 0 0 news.length) (H ++ [.arr e z.size false 0 news]))
    | .sl b g i n =>
      (match H[b]? with
        | some (.arr e' s z' gen l) =>
          Ck (Nat.beq g gen && Nat.beq i 0 && Nat.beq e e' && Nat.beq s z.size) ((n = l.length ∧ Ck (fitsRow (n + news.length) z.bytes)
            (K (.sl b (gen + 2 - gen % 2) 0 (n + news.length)) (H.set b (.arr e' s z' (gen + 2 - gen % 2) (l.app news))))) ∨
            Ck (Nat.ble 1 l.length && Nat.ble (n + news.length) l.length) (K (.sl b gen 0 (n + news.length)) (H.set b (.arr e' s z' gen (l.put n news)))))
        | _ => False)
    | _ => False)
  | _ => False

/-- So many zeros, appended to nil. -/
def xappendZ (tab : Tab) (ty : TypeId) (a x : AV) (H : AH) (K : AV → AH → Prop) : Prop :=
  Opt (tab ty) fun y =>
  match y.d with
  | .slice e => Opt (tab e) fun z => Opt z.zero fun zs =>
    (match a, x with
    | .t .nils, .t (.int k n) =>
      Ck (sameK k .i64 && decide (0 < n) && fitsRow n.toNat z.bytes && Nat.ble 1 z.size && Nat.beq zs.length z.size && zs.all T.one)
        (K (.sl H.length 0 0 n.toNat) (H ++ [.arr e z.size true 0 (.ts (List.replicate n.toNat (mkElem z.size zs)))]))
    | _, _ => False)
  | _ => False

def xcap (tab : Tab) (ty : TypeId) (H : AH) (x : AV) (K : AV → Prop) : Prop :=
  Opt (tab ty) fun y =>
  match y.d, x with
  | .slice _, .t .nils => K (.t (.int .i64 0))
  | .slice _, .sl b g i n =>
    (match H[b]? with
      | some (.arr _ s z gen l) => Ck (Nat.beq g gen) (Br (z && Nat.beq l.length 0) (K (.t (.int .i64 0))) (Ck (Nat.beq (gen % 2) 1 && Nat.ble 1 s) (K (.t (.int .i64 ((l.length - i : Nat) : Int))))))
      | _ => False)
  | _, _ => False

/-- A copy into a row of the walk's own: all that is read. -/
def xcopy (tab : Tab) (ty : TypeId) (a x : AV) (H : AH) (K : AV → AH → Prop) : Prop :=
  Opt (tab ty) fun y =>
  match y.d with
  | .slice e => Opt (tab e) fun z =>
    (match a with
    | .t .nils => Ck (!isStrA x) (Opt (lenA H x) fun _ => K (.t (.int .i64 0)) H)
    | .sl b g i n =>
      (match H[b]? with
        | some (.arr e' s z' gen l) => Opt (appended H z.size x) fun news =>
          Ck (Nat.beq g gen && Nat.beq s z.size && Nat.ble 1 z.size && Nat.ble 1 l.length) (Ck (Nat.ble news.length n) (K (.t (.int .i64 news.length)) (H.set b (.arr e' s z' gen (l.put i news)))))
        | _ => False)
    | _ => False)
  | _ => False

def isIntD : TypeDesc → Bool
  | .int _ => true
  | _ => false

def xminmax (mx : Bool) (x y : AV) (K : AV → Prop) : Prop :=
  match x, y with
  | .t (.int k a), .t (.int k' b) => Ck (sameK k k') (K (.t (.int k (match mx with | true => max a b | false => min a b))))
  | _, _ => False

/-! ### Operations -/

abbrev CallP := FuncId → List AV → AH → (AV → AH → Prop) → Prop

def xcall (tab : Tab) (call : CallP) (c : Call) (ty : TypeId) (env : List (Nat × AV)) (H : AH) (K : AV → AH → Prop) : Prop :=
  match c.callee with
  | .builtin b =>
    (match b, c.argTypes.toList, c.args.toList with
    | .len, [t], [x] => xlen tab t H (opd env x) fun v => K v H
    | .append, [t, u], [x, y] => Opt (tab u) fun z => (match isIntD z.d with | true => xappendZ tab t (opd env x) (opd env y) H K | false => xappend tab t H (opd env x) (opd env y) K)
    | .cap, [t], [x] => xcap tab t H (opd env x) fun v => K v H
    | .copy, [t, _], [x, y] => xcopy tab t (opd env x) (opd env y) H K
    | .min, _, [x, y] => xminmax false (opd env x) (opd env y) fun v => K v H
    | .max, _, [x, y] => xminmax true (opd env x) (opd env y) fun v => K v H
    | _, _, _ => False)
  | .value f =>
    (match opd env f with
    | .t (.fn (.func g) first captured) => call g (first.map .t ++ (c.args.toList.map (opd env) ++ captured.map .t)) H K
    | .fn (.func g) first captured => call g (first ++ (c.args.toList.map (opd env) ++ captured)) H K
    | _ => False)
  | .invoke _ _ => False

def xnilCheck (H : AH) (x : AV) (K : AV → Prop) : Prop :=
  match x with
  | .t (.iptr c) => K x
  | .ptr b g i o =>
    (match H[b]? with
      | some (.box _) => K x
      | some (.arr _ _ _ gen _) => Ck (Nat.beq g gen) (K x)
      | _ => False)
  | .t (.fn (.func f) a b) => K x
  | .fn (.func f) a b => K x
  | _ => False

/-- Through a string's letters (of one byte each). -/
def xrange (tab : Tab) (ty : TypeId) (x : AV) (H : AH) (K : AV → AH → Prop) : Prop :=
  Opt (tab ty) fun y =>
  match y.d, x with
  | .string, .t (.str s) => K (.ptr H.length 0 0 0) (H ++ [.iter s 0])
  | _, _ => False

def xnext (x : AV) (st : Bool) (H : AH) (K : AV → AH → Prop) : Prop :=
  match x with
  | .ptr b _ _ o =>
    (match H[b]? with
      | some (.iter s p) => Ck (st && Nat.beq o 0)
        (match s[p]? with
        | some c => Ck (Nat.blt c.toNat 128) (K (.tup [.t (.bool true), .t (.int .i64 p), .t (.int .i32 c.toNat)]) (H.set b (.iter s (p + 1))))
        | none => K (.tup [.t (.bool false)]) H)
      | _ => False)
  | _ => False

def xop (tab : Tab) (call : CallP) (o : Oper) (env : List (Nat × AV)) (H : AH) (K : AV → AH → Prop) : Prop :=
  match o.op with
  | .move x => K (opd env x) H
  | .assign x => xassign tab o.type (opd env x) H K
  | .pick c a b => xpick (opd env c) (opd env a) (opd env b) fun v => K v H
  | .alloc e => Opt (tab e) fun y => Opt y.zero fun zs => Ck (zs.all T.one && Nat.beq zs.length y.size)
      (match Nat.ble 300 y.size with | true => K (.ptr H.length 0 0 0) (H ++ [.arr e y.size false 0 (.ts [.agg zs])]) | false => K (.ptr H.length 0 0 0) (H ++ [.box (zs.map .t)]))
  | .box e x => Ck ((opd env x).cells.all AV.one) (K (.ptr H.length 0 0 0) (H ++ [.box (opd env x).cells]))
  | .build t parts => xbuild tab t (parts.toList.map fun p => (p.1, opd env p.2)) fun v => K v H
  | .buildSlice t n parts => xbuildSlice tab t n (parts.toList.map fun p => (p.1, opd env p.2)) H K
  | .load t a => xload tab t H (opd env a) fun v => K v H
  | .store t a x => xstore tab t H (opd env a) (opd env x) fun H' => K (.tup []) H'
  | .nilCheck x => xnilCheck H (opd env x) fun v => K v H
  | .binOp op t x y _ => xbin tab op t H (opd env x) (opd env y) (isConst y) fun v => K (.t v) H
  | .unOp op _ x => xun tab.stop op (opd env x) fun v => K (.t v) H
  | .convert s d x => xconvert tab s d (opd env x) H fun v => K v H
  | .makeInterface t x => Opt (tab t) fun y => Ck (match y.d with | .interface _ => false | _ => true)
      (match opd env x with | .t v => K (.t (.ifc t v)) H | v => K (.ifc t v) H)
  | .makeFunc f first captured => K (.fn f (first.toList.map (opd env)) (captured.toList.map (opd env))) H
  | .makeSlice t l c => xmakeSlice tab t (opd env l) (opd env c) H K
  | .slice t x lo hi mx => xslice tab t H (opd env x) (lo.map (opd env)) (hi.map (opd env)) (mx.map (opd env)) fun v => K v H
  | .fieldAddr t x k => xfieldAddr tab t H (opd env x) k fun v => K v H
  | .field t x k => xfield tab t (opd env x) k fun v => K v H
  | .indexAddr t x i => xindexAddr tab t H (opd env x) (opd env i) fun v => K v H
  | .index t x i => xindex tab t (opd env x) (opd env i) fun v => K v H
  | .extract x i => xextract (opd env x) i fun v => K v H
  | .call c => xcall tab call c o.type env H K
  | .range t x => xrange tab t (opd env x) H K
  | .next x st => xnext (opd env x) st H K
  | _ => False

/-- The slot of an operation's guard. -/
def guardSlot (ops : Array Oper) (j : Nat) : Option Nat := (ops[j]?).bind (·.dst)

/-- One operation, or none, as its guard says. -/
def xguard (tab : Tab) (call : CallP) (ops : Array Oper) (o : Oper) (s : St) (K : St → Prop) : Prop :=
  match s with
  | ⟨env, H⟩ =>
  match o.guard with
  | none => xop tab call o env H fun v H => stp ⟨env, H⟩ o.dst v H K
  | some (j, want) =>
    Opt (guardSlot ops j) fun d =>
    match lk env d with
    | .t (.bool c) =>
      (match want with
      | true => Br c (xop tab call o ((d, .t (.bool true)) :: env) H fun v H' => stp ⟨(d, .t (.bool true)) :: env, H⟩ o.dst v H' K) (stp ⟨(d, .t (.bool false)) :: env, H⟩ o.dst (.tup []) H K)
      | false => Br c (stp ⟨(d, .t (.bool true)) :: env, H⟩ o.dst (.tup []) H K) (xop tab call o ((d, .t (.bool false)) :: env) H fun v H' => stp ⟨(d, .t (.bool false)) :: env, H⟩ o.dst v H' K))
    | .tup [] => stp ⟨env, H⟩ o.dst (.tup []) H K
    | _ => False

/-- (By the recursor itself: the elaborator and the kernel then leave the same form behind an operation.) -/
noncomputable def xops (tab : Tab) (call : CallP) (ops : Array Oper) (l : List Oper) : St → (St → Prop) → Prop :=
  @List.rec Oper (fun _ => St → (St → Prop) → Prop) (fun s K => K s) (fun o _ ih s K => xguard tab call ops o s fun s' => ih s' K) l

inductive Ex where
  | normal | exit (id : Nat) | ret

end Go.Proofs.YthpkehhghcpolaaDoor

namespace Go.Proofs.YthpkehhghcpolaaDoor
open Go.RowKit
set_option linter.unusedVariables false

/-- The context behind a new block. -/
def Cx.new (c : Cx) (n cb : Nat) : Cx := ⟨c.F, fun b => if b = n then some cb else c.G b⟩

theorem getElem?_snoc_lt {α : Type} {l : List α} {x : α} {i : Nat} (h : i < l.length) : (l ++ [x])[i]? = l[i]? := by
  rw [List.getElem?_append_left h]

theorem getElem?_snoc_eq {α : Type} {l : List α} {x : α} : (l ++ [x])[l.length]? = some x := by simp

theorem HS.dom' {w c H B} (h : HS w c H B) : c.G H.length = none := by
  cases hg : c.G H.length with
  | none => rfl
  | some cb => have := h.dom _ _ hg; omega

theorem lt_of_getElem? {α : Type} {l : List α} {i : Nat} {x : α} (h : l[i]? = some x) : i < l.length := by
  rcases Nat.lt_or_ge i l.length with h1 | h1
  · exact h1
  · simp [List.getElem?_eq_none h1] at h

theorem heap_old (w : World) (o : Obj) (i : Nat) (h : i < w.heap.size) : (w.alloc o).heap[i]? = w.heap[i]? := Below.heap_alloc w o i h

/-- A new block, which may be one of the walk's own. -/
theorem ev_new {w : World} {c : Cx} {H : AH} {B : Nat} (hs : HS w c H B) (o : Obj) (blk : Blk) : Ev w c H (w.alloc o) (c.new H.length w.heap.size) (H ++ [blk]) := by
  refine ⟨rfl, by simp, fun b bk hb => ⟨bk, by rw [getElem?_snoc_lt (lt_of_getElem? hb)]; exact hb, ?_⟩, fun cb hm => ?_, fun cb hlt _ => heap_old w _ cb hlt,
    fun b bk hb _ hg => by have := lt_of_getElem? hb; simp only [Cx.new, if_neg (show b ≠ H.length by omega)]; exact hg⟩
  · have hne : b ≠ H.length := by have := lt_of_getElem? hb; omega
    cases bk with
    | dead => trivial
    | box cs => exact ⟨rfl, fun cb hc => by simp only [Cx.new, if_neg hne]; exact hc⟩
    | iter s p => exact ⟨rfl, fun cb hc => by simp only [Cx.new, if_neg hne]; exact hc⟩
    | arr e s z g l =>
      refine ⟨rfl, rfl, rfl, Nat.le_refl _, Nat.le_refl _, fun _ => ⟨rfl, fun cb hc => ⟨by simp only [Cx.new, if_neg hne]; exact hc, ?_⟩⟩⟩
      unfold rowSize
      rw [heap_old w _ cb (hs.base b cb hc).2]
  · rcases hm with ⟨b, bk, hb, hl, hg⟩
    · simp only [Cx.new] at hg
      split at hg
      · exact .inr (by simp at hg; omega)
      · rename_i hne
        refine .inl ⟨b, bk, ?_, hl, hg⟩
        have := lt_of_getElem? hb
        simp at this
        rwa [getElem?_snoc_lt (by omega)] at hb

theorem below_new {w : World} {B : Nat} (hB : B ≤ w.heap.size) (o : Obj) : Below B w (w.alloc o) := (Below.refl B w).alloc hB o

theorem Rowed.ew {w c H w' c' H' s} {l : Sq} {arr : Array Value} (h : Rowed w c H s l arr) (ev : Ew w c H w' c' H') : Rowed w' c' H' s l arr := fun i x hi => ⟨(h i x hi).1, fun j y hj => by
  obtain ⟨v, b1, b2, b3, b4⟩ := (h i x hi).2 j y hj
  exact ⟨v, b1, b2, b3.ew ev, b4⟩⟩

theorem Rowed.ev {w c H w' c' H' s} {l : Sq} {arr : Array Value} (h : Rowed w c H s l arr) (ev : Ev w c H w' c' H') : Rowed w' c' H' s l arr := h.ew ev.w

/-- Old blocks are held behind a step that leaves their places alone. -/
theorem HS.keepW {w c H B w' c' H'} (h : HS w c H B) (ev : Ew w c H w' c' H') (hinj : ∀ b b' cb, c'.G b = some cb → c'.G b' = some cb → b = b')
    (hbase : ∀ b cb, c'.G b = some cb → B ≤ cb ∧ cb < w'.heap.size) (hdom : ∀ b cb, c'.G b = some cb → b < H'.length)
    (hbox : ∀ b cb cells, H'[b]? = some (.box cells) → c'.G b = some cb → (H[b]? = some (.box cells) ∧ c.G b = some cb ∧ w'.heap[cb]? = w.heap[cb]?) ∨
      ∃ arr e, w'.heap[cb]? = some (.cells arr e (0, 0)) ∧ arr.size = cells.length ∧ ∀ (j : Nat) x v, cells[j]? = some x → arr[j]? = some v → x.one = true ∧ RA w' c' H' x v ∧ v.oneCell' = true)
    (harr : ∀ b cb e s z g l, H'[b]? = some (.arr e s z g l) → c'.G b = some cb → (H[b]? = some (.arr e s z g l) ∧ c.G b = some cb ∧ w'.heap[cb]? = w.heap[cb]?) ∨
      ∃ arr cap, w'.heap[cb]? = some (.cells arr e (0, 0)) ∧ arr.size = cap * s ∧ (l.length ≤ cap ∧ (g % 2 = 1 → l.length = cap)) ∧ cap ≤ maxLen ∧ Rowed w' c' H' s l arr)
    (hiter : ∀ b cb s p, H'[b]? = some (.iter s p) → c'.G b = some cb → (H[b]? = some (.iter s p) ∧ c.G b = some cb ∧ w'.heap[cb]? = w.heap[cb]?) ∨ ∃ bs : ByteArray, w'.heap[cb]? = some (.stringIter bs p) ∧ bs.data.toList = s)
    (hnew : ∀ b cb, c'.G b = some cb → (∃ b', c.G b' = some cb) ∨ w.heap.size ≤ cb := by
      first
        | exact fun b cb h => .inl ⟨b, h⟩
        | (intro b cb h; simp only [Cx.new] at h; split at h <;> first | exact .inl ⟨_, h⟩ | exact .inr (by simp at h; omega))) :
    HS w' c' H' B := by
  refine ⟨hinj, hbase, fun cb hf => by
    rw [ev.F] at hf
    have h1 := h.fb cb hf
    exact ⟨Nat.lt_of_lt_of_le h1.1 ev.size, fun b hb => (hnew b cb hb).elim (fun ⟨b', h2⟩ => h1.2 b' h2) fun h2 => by omega⟩, Nat.le_trans h.hB ev.size, hdom, fun b cb cells hb hg => ?_, fun b cb e s z g l hb hg => ?_, fun b cb s p hb hg => ?_⟩
  · rcases hbox b cb cells hb hg with ⟨h1, h2, h3⟩ | h1
    · obtain ⟨arr, e, a1, a2, a3⟩ := h.box b cb cells h1 h2
      exact ⟨arr, e, h3.trans a1, a2, fun j x v hj hv => ⟨(a3 j x v hj hv).1, (a3 j x v hj hv).2.1.ew ev, (a3 j x v hj hv).2.2⟩⟩
    · exact h1
  · rcases harr b cb e s z g l hb hg with ⟨h1, h2, h3⟩ | h1
    · obtain ⟨arr, cap, a1, a2, a3, a4, a5⟩ := h.arr b cb e s z g l h1 h2
      exact ⟨arr, cap, h3.trans a1, a2, a3, a4, a5.ew ev⟩
    · exact h1
  · rcases hiter b cb s p hb hg with ⟨h1, h2, h3⟩ | h1
    · obtain ⟨bs, a1, a2⟩ := h.iter b cb s p h1 h2
      exact ⟨bs, h3.trans a1, a2⟩
    · exact h1

theorem HS.keep {w c H B w' c' H'} (h : HS w c H B) (ev : Ev w c H w' c' H') (hinj : ∀ b b' cb, c'.G b = some cb → c'.G b' = some cb → b = b')
    (hbase : ∀ b cb, c'.G b = some cb → B ≤ cb ∧ cb < w'.heap.size) (hdom : ∀ b cb, c'.G b = some cb → b < H'.length)
    (hbox : ∀ b cb cells, H'[b]? = some (.box cells) → c'.G b = some cb → (H[b]? = some (.box cells) ∧ c.G b = some cb ∧ w'.heap[cb]? = w.heap[cb]?) ∨
      ∃ arr e, w'.heap[cb]? = some (.cells arr e (0, 0)) ∧ arr.size = cells.length ∧ ∀ (j : Nat) x v, cells[j]? = some x → arr[j]? = some v → x.one = true ∧ RA w' c' H' x v ∧ v.oneCell' = true)
    (harr : ∀ b cb e s z g l, H'[b]? = some (.arr e s z g l) → c'.G b = some cb → (H[b]? = some (.arr e s z g l) ∧ c.G b = some cb ∧ w'.heap[cb]? = w.heap[cb]?) ∨
      ∃ arr cap, w'.heap[cb]? = some (.cells arr e (0, 0)) ∧ arr.size = cap * s ∧ (l.length ≤ cap ∧ (g % 2 = 1 → l.length = cap)) ∧ cap ≤ maxLen ∧ Rowed w' c' H' s l arr)
    (hiter : ∀ b cb s p, H'[b]? = some (.iter s p) → c'.G b = some cb → (H[b]? = some (.iter s p) ∧ c.G b = some cb ∧ w'.heap[cb]? = w.heap[cb]?) ∨ ∃ bs : ByteArray, w'.heap[cb]? = some (.stringIter bs p) ∧ bs.data.toList = s)
    (hnew : ∀ b cb, c'.G b = some cb → (∃ b', c.G b' = some cb) ∨ w.heap.size ≤ cb := by
      first
        | exact fun b cb h => .inl ⟨b, h⟩
        | (intro b cb h; simp only [Cx.new] at h; split at h <;> first | exact .inl ⟨_, h⟩ | exact .inr (by simp at h; omega))) :
    HS w' c' H' B := h.keepW ev.w hinj hbase hdom hbox harr hiter hnew

theorem new_inj {w c H B} (hs : HS w c H B) (o : Obj) : ∀ b b' cb, (c.new H.length w.heap.size).G b = some cb → (c.new H.length w.heap.size).G b' = some cb → b = b' := by
  intro b b' cb h h'
  simp only [Cx.new] at h h'
  split at h <;> split at h'
  · omega
  · have := (hs.base b' cb h').2; simp at h; omega
  · have := (hs.base b cb h).2; simp at h'; omega
  · exact hs.inj b b' cb h h'

theorem new_base {w c H B} (hs : HS w c H B) (o : Obj) : ∀ b cb, (c.new H.length w.heap.size).G b = some cb → B ≤ cb ∧ cb < (w.alloc o).heap.size := by
  intro b cb h
  simp only [Cx.new] at h ⊢
  split at h
  · simp at h; subst h; exact ⟨hs.hB, by simp⟩
  · have := hs.base b cb h; exact ⟨this.1, by simp; omega⟩

theorem new_dom {w c H B} (hs : HS w c H B) (blk : Blk) : ∀ b cb, (c.new H.length w.heap.size).G b = some cb → b < (H ++ [blk]).length := by
  intro b cb h
  simp only [Cx.new] at h
  split at h
  · simp; omega
  · have := hs.dom b cb h; simp; omega

/-- A new variable. -/
theorem new_box {w : World} {c : Cx} {H : AH} {B : Nat} (hs : HS w c H B) (e : TypeId) (cells : List AV) (arr : Array Value) (hl : arr.size = cells.length)
    (hc : ∀ (j : Nat) x v, cells[j]? = some x → arr[j]? = some v → x.one = true ∧ RA w c H x v ∧ v.oneCell' = true) :
    HS (w.alloc (.cells arr e)) (c.new H.length w.heap.size) (H ++ [.box cells]) B := by
  have ev := ev_new hs (.cells arr e) (.box cells)
  refine hs.keep ev (new_inj hs (.cells arr e)) (new_base hs (.cells arr e)) (new_dom hs (.box cells)) (fun b cb cs hb hg => ?_) (fun b cb e s z g l hb hg => ?_) (fun b cb s p hb hg => ?_)
  · by_cases hb' : b = H.length
    · subst hb'
      simp only [Cx.new, if_true] at hg
      simp at hb hg
      subst hb hg
      exact .inr ⟨arr, e, heap_alloc_new w _, hl, fun j x v hj hv => ⟨(hc j x v hj hv).1, (hc j x v hj hv).2.1.ev ev, (hc j x v hj hv).2.2⟩⟩
    · simp only [Cx.new, if_neg hb'] at hg
      have h1 := lt_of_getElem? hb
      simp at h1
      rw [getElem?_snoc_lt (by omega)] at hb
      exact .inl ⟨hb, hg, heap_old w _ cb (hs.base b cb hg).2⟩
  · by_cases hb' : b = H.length
    · subst hb'; simp at hb
    · simp only [Cx.new, if_neg hb'] at hg
      have h1 := lt_of_getElem? hb
      simp at h1
      rw [getElem?_snoc_lt (by omega)] at hb
      exact .inl ⟨hb, hg, heap_old w _ cb (hs.base b cb hg).2⟩
  · by_cases hb' : b = H.length
    · subst hb'; simp at hb
    · simp only [Cx.new, if_neg hb'] at hg
      have h1 := lt_of_getElem? hb
      simp at h1
      rw [getElem?_snoc_lt (by omega)] at hb
      exact .inl ⟨hb, hg, heap_old w _ cb (hs.base b cb hg).2⟩

/-- A new row. -/
theorem new_arr {w : World} {c : Cx} {H : AH} {B : Nat} (hs : HS w c H B) (e s : Nat) (z : Bool) (g : Nat) (l : Sq) (arr : Array Value) (cap : Nat)
    (hsz : arr.size = cap * s) (hl : l.length ≤ cap ∧ (g % 2 = 1 → l.length = cap)) (hm : cap ≤ maxLen)
    (hc : Rowed w c H s l arr) :
    HS (w.alloc (.cells arr e)) (c.new H.length w.heap.size) (H ++ [.arr e s z g l]) B := by
  have ev := ev_new hs (.cells arr e) (.arr e s z g l)
  refine hs.keep ev (new_inj hs (.cells arr e)) (new_base hs (.cells arr e)) (new_dom hs (.arr e s z g l)) (fun b cb cs hb hg => ?_) (fun b cb e s z g l hb hg => ?_) (fun b cb s p hb hg => ?_)
  · by_cases hb' : b = H.length
    · subst hb'; simp at hb
    · simp only [Cx.new, if_neg hb'] at hg
      have h1 := lt_of_getElem? hb
      simp at h1
      rw [getElem?_snoc_lt (by omega)] at hb
      exact .inl ⟨hb, hg, heap_old w _ cb (hs.base b cb hg).2⟩
  · by_cases hb' : b = H.length
    · subst hb'
      simp only [Cx.new, if_true] at hg
      simp at hb hg
      obtain ⟨rfl, rfl, rfl, rfl, rfl⟩ := hb
      subst hg
      exact .inr ⟨arr, cap, heap_alloc_new w _, hsz, hl, hm, hc.ev ev⟩
    · simp only [Cx.new, if_neg hb'] at hg
      have h1 := lt_of_getElem? hb
      simp at h1
      rw [getElem?_snoc_lt (by omega)] at hb
      exact .inl ⟨hb, hg, heap_old w _ cb (hs.base b cb hg).2⟩
  · by_cases hb' : b = H.length
    · subst hb'; simp at hb
    · simp only [Cx.new, if_neg hb'] at hg
      have h1 := lt_of_getElem? hb
      simp at h1
      rw [getElem?_snoc_lt (by omega)] at hb
      exact .inl ⟨hb, hg, heap_old w _ cb (hs.base b cb hg).2⟩

/-- A new walk through a string. -/
theorem new_iter {w : World} {c : Cx} {H : AH} {B : Nat} (hs : HS w c H B) (bs : ByteArray) (pos : Nat) :
    HS (w.alloc (.stringIter bs pos)) (c.new H.length w.heap.size) (H ++ [.iter bs.data.toList pos]) B := by
  have ev := ev_new hs (.stringIter bs pos) (.iter bs.data.toList pos)
  refine hs.keep ev (new_inj hs (.stringIter bs pos)) (new_base hs (.stringIter bs pos)) (new_dom hs (.iter bs.data.toList pos)) (fun b cb cs hb hg => ?_) (fun b cb e s z g l hb hg => ?_) (fun b cb s p hb hg => ?_)
  · by_cases hb' : b = H.length
    · subst hb'; simp at hb
    · simp only [Cx.new, if_neg hb'] at hg
      have h1 := lt_of_getElem? hb
      simp at h1
      rw [getElem?_snoc_lt (by omega)] at hb
      exact .inl ⟨hb, hg, heap_old w _ cb (hs.base b cb hg).2⟩
  · by_cases hb' : b = H.length
    · subst hb'; simp at hb
    · simp only [Cx.new, if_neg hb'] at hg
      have h1 := lt_of_getElem? hb
      simp at h1
      rw [getElem?_snoc_lt (by omega)] at hb
      exact .inl ⟨hb, hg, heap_old w _ cb (hs.base b cb hg).2⟩
  · by_cases hb' : b = H.length
    · subst hb'
      simp only [Cx.new, if_true] at hg
      simp at hb hg
      obtain ⟨rfl, rfl⟩ := hb
      subst hg
      exact .inr ⟨bs, heap_alloc_new w _, rfl⟩
    · simp only [Cx.new, if_neg hb'] at hg
      have h1 := lt_of_getElem? hb
      simp at h1
      rw [getElem?_snoc_lt (by omega)] at hb
      exact .inl ⟨hb, hg, heap_old w _ cb (hs.base b cb hg).2⟩

/-- A block of the walk's own that has no place (yet). -/
theorem new_none {w : World} {c : Cx} {H : AH} {B : Nat} (hs : HS w c H B) (blk : Blk) : Ev w c H w c (H ++ [blk]) ∧ HS w c (H ++ [blk]) B := by
  have hdom := hs.dom'
  have ev : Ev w c H w c (H ++ [blk]) := by
    refine ⟨rfl, Nat.le_refl _, fun b bk hb => ⟨bk, by rw [getElem?_snoc_lt (lt_of_getElem? hb)]; exact hb, ?_⟩, fun cb hm => ?_, fun _ _ _ => rfl, fun _ _ _ _ h => h⟩
    · cases bk with
      | dead => trivial
      | box cs => exact ⟨rfl, fun _ h => h⟩
      | iter s p => exact ⟨rfl, fun _ h => h⟩
      | arr => exact ⟨rfl, rfl, rfl, Nat.le_refl _, Nat.le_refl _, fun _ => ⟨rfl, fun _ h => ⟨h, rfl⟩⟩⟩
    · rcases hm with ⟨b, bk, hb, hl, hg⟩
      · refine .inl ⟨b, bk, ?_, hl, hg⟩
        rwa [getElem?_snoc_lt (hs.dom b cb hg)] at hb
  refine ⟨ev, hs.keep ev hs.inj hs.base (fun b cb h => by have := hs.dom b cb h; simp; omega) (fun b cb cs hb hg => ?_) (fun b cb e s z g l hb hg => ?_) (fun b cb s p hb hg => ?_)⟩
  · rw [getElem?_snoc_lt (hs.dom b cb hg)] at hb; exact .inl ⟨hb, hg, rfl⟩
  · rw [getElem?_snoc_lt (hs.dom b cb hg)] at hb; exact .inl ⟨hb, hg, rfl⟩
  · rw [getElem?_snoc_lt (hs.dom b cb hg)] at hb; exact .inl ⟨hb, hg, rfl⟩

/-- What follows of a new row or variable for its own name. -/
theorem new_at {w : World} {c : Cx} {H : AH} (blk : Blk) : (H ++ [blk])[H.length]? = some blk ∧ (c.new H.length w.heap.size).G H.length = some w.heap.size := by
  simp [Cx.new]

theorem rowSize_alloc (w : World) (arr : Array Value) (e : TypeId) : rowSize (w.alloc (.cells arr e)) w.heap.size = arr.size := by
  unfold rowSize; rw [heap_alloc_new]

/-- A block is given up. -/
theorem kill {w : World} {c : Cx} {H : AH} {B : Nat} (hs : HS w c H B) (b : Nat) : Ev w c H w c (H.set b .dead) ∧ HS w c (H.set b .dead) B := by
  have get : ∀ (i : Nat) bk, H[i]? = some bk → (H.set b .dead)[i]? = some (if i = b then .dead else bk) := by
    intro i bk hi
    have := lt_of_getElem? hi
    by_cases h : b = i
    · subst h; simp [this]
    · rw [List.getElem?_set_ne h, hi, if_neg (fun e => h e.symm)]
  have back : ∀ (i : Nat) bk, (H.set b .dead)[i]? = some bk → bk ≠ .dead → H[i]? = some bk := by
    intro i bk hi hne
    by_cases h : b = i
    · subst h
      have := lt_of_getElem? hi
      simp at this
      simp [this] at hi
      exact (hne hi.symm).elim
    · rwa [List.getElem?_set_ne h] at hi
  have ev : Ev w c H w c (H.set b .dead) := by
    refine ⟨rfl, Nat.le_refl _, fun i bk hi => ⟨_, get i bk hi, ?_⟩, fun cb hm => ?_, fun _ _ _ => rfl, fun _ _ _ _ h => h⟩
    · split
      · cases bk <;> trivial
      · cases bk with
        | dead => trivial
        | box cs => exact ⟨rfl, fun _ h => h⟩
        | iter s p => exact ⟨rfl, fun _ h => h⟩
        | arr => exact ⟨rfl, rfl, rfl, Nat.le_refl _, Nat.le_refl _, fun _ => ⟨rfl, fun _ h => ⟨h, rfl⟩⟩⟩
    · rcases hm with ⟨i, bk, hi, hl, hg⟩
      · exact .inl ⟨i, bk, back i bk hi (by rintro rfl; simp [Blk.live] at hl), hl, hg⟩
  refine ⟨ev, hs.keep ev hs.inj hs.base (fun b cb h => by have := hs.dom b cb h; simp; omega) (fun i cb cs hi hg => ?_) (fun i cb e s z g l hi hg => ?_) (fun i cb s p hi hg => ?_)⟩
  · exact .inl ⟨back i _ hi (by simp), hg, rfl⟩
  · exact .inl ⟨back i _ hi (by simp), hg, rfl⟩
  · exact .inl ⟨back i _ hi (by simp), hg, rfl⟩

end Go.Proofs.YthpkehhghcpolaaDoor

namespace Go.Proofs.YthpkehhghcpolaaDoor
open Go.RowKit
set_option linter.unusedVariables false
set_option linter.unusedSimpArgs false

/-- A world with the same memory. -/
theorem ev_same {w w' : World} (h : w'.heap = w.heap) (c : Cx) (H : AH) : Ev w c H w' c H := by
  refine ⟨rfl, by rw [h]; exact Nat.le_refl _, fun b blk hb => ⟨blk, hb, ?_⟩, fun _ h => .inl h, fun _ _ _ => by rw [h], fun _ _ _ _ h => h⟩
  cases blk with
  | dead => trivial
  | box cs => exact ⟨rfl, fun _ h => h⟩
  | iter s p => exact ⟨rfl, fun _ h => h⟩
  | arr => exact ⟨rfl, rfl, rfl, Nat.le_refl _, Nat.le_refl _, fun _ => ⟨rfl, fun cb hc => ⟨hc, by simp only [rowSize, h]⟩⟩⟩

theorem HS.same {w w' : World} {c H B} (hs : HS w c H B) (h : w'.heap = w.heap) : HS w' c H B := by
  refine hs.keep (ev_same h c H) hs.inj (fun b cb hg => by rw [h]; exact hs.base b cb hg) hs.dom (fun b cb cells hb hg => .inl ⟨hb, hg, by rw [h]⟩) (fun b cb e s z g l hb hg => .inl ⟨hb, hg, by rw [h]⟩) (fun b cb s p hb hg => .inl ⟨hb, hg, by rw [h]⟩)

theorem below_drew {w : World} {B : Nat} : Below B w w.drew := (Below.refl B w).drew

/-- A block of the walk's own is written in its place. -/
theorem upd {w : World} {c : Cx} {H : AH} {B : Nat} (hs : HS w c H B) {b cb : Nat} {blk blk' : Blk} (hb : H[b]? = some blk) (hl : blk.live = true) (hg : c.G b = some cb)
    {arr arr' : Array Value} {e : TypeId} (hc : w.heap[cb]? = some (.cells arr e (0, 0))) (hsz : arr'.size = arr.size)
    (goes : Blk.goes w c (w.setRow cb arr') c b blk blk') : Ev w c H (w.setRow cb arr') c (H.set b blk') := by
  have hlt := lt_of_getElem? hb
  refine ⟨rfl, by simp, fun i bk hi => ?_, fun k hm => ?_, fun k _ hm => setRow_other w cb k arr' (fun e => hm (⟨b, blk, hb, hl, by rw [e]; exact hg⟩)), fun _ _ _ _ h => h⟩
  · by_cases h : b = i
    · subst h
      rw [hb] at hi
      cases hi
      exact ⟨blk', by simp [hlt], goes⟩
    · refine ⟨bk, by rw [List.getElem?_set_ne h]; exact hi, ?_⟩
      cases bk with
      | dead => trivial
      | box cs => exact ⟨rfl, fun _ h => h⟩
      | iter s p => exact ⟨rfl, fun _ h => h⟩
      | arr =>
        refine ⟨rfl, rfl, rfl, Nat.le_refl _, Nat.le_refl _, fun _ => ⟨rfl, fun cb' hc' => ⟨hc', ?_⟩⟩⟩
        have hne : cb' ≠ cb := fun e => h (hs.inj b i cb hg (by rw [← e]; exact hc'))
        simp only [rowSize, setRow_other w cb cb' arr' hne]
  · rcases hm with ⟨i, bk, hi, hlv, hgi⟩
    · by_cases h : b = i
      · subst h
        rw [hgi] at hg; cases hg
        exact .inl ⟨b, blk, hb, hl, hgi⟩
      · rw [List.getElem?_set_ne h] at hi
        exact .inl ⟨i, bk, hi, hlv, hgi⟩

theorem set_box {w : World} {c : Cx} {H : AH} {B : Nat} (hs : HS w c H B) {b cb : Nat} {cells cells' : List AV} (hb : H[b]? = some (.box cells)) (hg : c.G b = some cb)
    {arr arr' : Array Value} {e : TypeId} (hc : w.heap[cb]? = some (.cells arr e (0, 0))) (hsz : arr'.size = arr.size) (hsa : arr.size = cells.length) (hcl : cells'.length = cells.length)
    (hn : ∀ (j : Nat) x v, cells'[j]? = some x → arr'[j]? = some v → x.one = true ∧ RA w c H x v ∧ v.oneCell' = true) :
    Ev w c H (w.setRow cb arr') c (H.set b (.box cells')) ∧ HS (w.setRow cb arr') c (H.set b (.box cells')) B := by
  have ev : Ev w c H (w.setRow cb arr') c (H.set b (.box cells')) := upd hs hb rfl hg hc hsz ⟨hcl.symm, fun _ h => h⟩
  have hlt := lt_of_getElem? hb
  refine ⟨ev, hs.keep ev hs.inj (fun b cb h => by simp; exact hs.base b cb h) (fun b cb h => by simp; exact hs.dom b cb h) (fun i k cs hi hgi => ?_) (fun i k e s z g l hi hgi => ?_) (fun i k s p hi hgi => ?_)⟩
  · by_cases h : b = i
    · subst h
      rw [hgi] at hg; cases hg
      simp [hlt] at hi
      subst hi
      exact .inr ⟨arr', e, setRow_heap w _ arr arr' e _ hc, by omega, fun j x v hj hv => ⟨(hn j x v hj hv).1, (hn j x v hj hv).2.1.ev ev, (hn j x v hj hv).2.2⟩⟩
    · rw [List.getElem?_set_ne h] at hi
      exact .inl ⟨hi, hgi, setRow_other w cb k arr' (fun e => h (hs.inj b i cb hg (by rw [← e]; exact hgi)))⟩
  · by_cases h : b = i
    · subst h; simp [hlt] at hi
    · rw [List.getElem?_set_ne h] at hi
      exact .inl ⟨hi, hgi, setRow_other w cb k arr' (fun e => h (hs.inj b i cb hg (by rw [← e]; exact hgi)))⟩
  · by_cases h : b = i
    · subst h; simp [hlt] at hi
    · rw [List.getElem?_set_ne h] at hi
      exact .inl ⟨hi, hgi, setRow_other w cb k arr' (fun e => h (hs.inj b i cb hg (by rw [← e]; exact hgi)))⟩

theorem set_arr {w : World} {c : Cx} {H : AH} {B : Nat} (hs : HS w c H B) {b cb e s g g' cap : Nat} {z : Bool} {l l' : Sq} (hb : H[b]? = some (.arr e s z g l)) (hg : c.G b = some cb)
    {arr arr' : Array Value} (hc : w.heap[cb]? = some (.cells arr e (0, 0))) (hsz : arr'.size = arr.size) (hsa : arr.size = cap * s) (hcap : l'.length ≤ cap ∧ (g' % 2 = 1 → l'.length = cap)) (hm : cap ≤ maxLen)
    (hgg : g ≤ g') (hl0 : l.length ≤ l'.length) (hgl : g = g' → l'.length = l.length)
    (hn : Rowed w c H s l' arr') :
    Ev w c H (w.setRow cb arr') c (H.set b (.arr e s z g' l')) ∧ HS (w.setRow cb arr') c (H.set b (.arr e s z g' l')) B := by
  have ev : Ev w c H (w.setRow cb arr') c (H.set b (.arr e s z g' l')) := upd hs hb rfl hg hc hsz
    ⟨rfl, rfl, rfl, hl0, hgg, fun h => ⟨hgl h, fun k hk => ⟨hk, by rw [hk] at hg; cases hg; simp only [rowSize, setRow_heap w cb arr arr' e _ hc, hc, hsz]⟩⟩⟩
  have hlt := lt_of_getElem? hb
  refine ⟨ev, hs.keep ev hs.inj (fun b cb h => by simp; exact hs.base b cb h) (fun b cb h => by simp; exact hs.dom b cb h) (fun i k cs hi hgi => ?_) (fun i k e s z g l hi hgi => ?_) (fun i k s p hi hgi => ?_)⟩
  · by_cases h : b = i
    · subst h; simp [hlt] at hi
    · rw [List.getElem?_set_ne h] at hi
      exact .inl ⟨hi, hgi, setRow_other w cb k arr' (fun e => h (hs.inj b i cb hg (by rw [← e]; exact hgi)))⟩
  · by_cases h : b = i
    · subst h
      rw [hgi] at hg; cases hg
      simp [hlt] at hi
      obtain ⟨rfl, rfl, rfl, rfl, rfl⟩ := hi
      refine .inr ⟨arr', cap, setRow_heap w _ arr arr' _ _ hc, by omega, hcap, hm, fun i x hi => ⟨(hn i x hi).1, fun j y hj => ?_⟩⟩
      obtain ⟨v, b1, b2, b3, b4⟩ := (hn i x hi).2 j y hj
      exact ⟨v, b1, b2, b3.ev ev, b4⟩
    · rw [List.getElem?_set_ne h] at hi
      exact .inl ⟨hi, hgi, setRow_other w cb k arr' (fun e => h (hs.inj b i cb hg (by rw [← e]; exact hgi)))⟩
  · by_cases h : b = i
    · subst h; simp [hlt] at hi
    · rw [List.getElem?_set_ne h] at hi
      exact .inl ⟨hi, hgi, setRow_other w cb k arr' (fun e => h (hs.inj b i cb hg (by rw [← e]; exact hgi)))⟩

/-- A row of the walk's own goes on in a new block. -/
theorem move_arr {w : World} {c : Cx} {H : AH} {B : Nat} (hs : HS w c H B) {b e s g g' cap : Nat} {z : Bool} {l l' : Sq} (hb : H[b]? = some (.arr e s z g l))
    (arr' : Array Value) (hsa : arr'.size = cap * s) (hcap : l'.length ≤ cap ∧ (g' % 2 = 1 → l'.length = cap)) (hm : cap ≤ maxLen) (hl0 : l.length ≤ l'.length) (hgb : Blk.fix (.arr e s z g l) = true → c.G b ≠ none) (hgg : g < g')
    (hn : Rowed w c H s l' arr') :
    Ev w c H (w.drew.alloc (.cells arr' e)) (c.new b w.heap.size) (H.set b (.arr e s z g' l')) ∧
    HS (w.drew.alloc (.cells arr' e)) (c.new b w.heap.size) (H.set b (.arr e s z g' l')) B := by
  have hlt := lt_of_getElem? hb
  have hold : ∀ k, k < w.heap.size → (w.drew.alloc (.cells arr' e)).heap[k]? = w.heap[k]? := fun k hk => heap_old w.drew _ k hk
  have hnew : (w.drew.alloc (.cells arr' e)).heap[w.heap.size]? = some (.cells arr' e) := heap_alloc_new w.drew _
  have ev : Ev w c H (w.drew.alloc (.cells arr' e)) (c.new b w.heap.size) (H.set b (.arr e s z g' l')) := by
    refine ⟨rfl, by simp, fun i bk hi => ?_, fun k hm => ?_, fun k hk _ => hold k hk, fun i bk hi hbk hg => ?_⟩
    · by_cases h : b = i
      · subst h
        rw [hb] at hi; cases hi
        exact ⟨.arr e s z g' l', by simp [hlt], rfl, rfl, rfl, hl0, by omega, fun he => by omega⟩
      · refine ⟨bk, by rw [List.getElem?_set_ne h]; exact hi, ?_⟩
        cases bk with
        | dead => trivial
        | box cs => exact ⟨rfl, fun cb hc => by simp only [Cx.new, if_neg (Ne.symm h)]; exact hc⟩
        | iter s p => exact ⟨rfl, fun cb hc => by simp only [Cx.new, if_neg (Ne.symm h)]; exact hc⟩
        | arr =>
          refine ⟨rfl, rfl, rfl, Nat.le_refl _, Nat.le_refl _, fun _ => ⟨rfl, fun cb hc => ⟨by simp only [Cx.new, if_neg (Ne.symm h)]; exact hc, ?_⟩⟩⟩
          simp only [rowSize, hold cb (hs.base _ _ hc).2]
    · rcases hm with ⟨i, bk, hi, hl, hgi⟩
      · simp only [Cx.new] at hgi
        split at hgi
        · exact .inr (by simp at hgi; omega)
        · rename_i h
          rw [List.getElem?_set_ne (Ne.symm h)] at hi
          exact .inl ⟨i, bk, hi, hl, hgi⟩
    · have hne : i ≠ b := fun e => by subst e; rw [hb] at hi; cases hi; exact hgb hbk hg
      simp only [Cx.new, if_neg hne]; exact hg
  refine ⟨ev, hs.keep ev (fun i i' cb h h' => ?_) (fun i cb h => ?_) (fun i cb h => ?_) (fun i k cs hi hgi => ?_) (fun i k e1 s1 z1 g1 l1 hi hgi => ?_) (fun i k s1 p1 hi hgi => ?_)⟩
  · simp only [Cx.new] at h h'
    split at h <;> split at h'
    · omega
    · have := (hs.base i' cb h').2; simp at h; omega
    · have := (hs.base i cb h).2; simp at h'; omega
    · exact hs.inj i i' cb h h'
  · simp only [Cx.new] at h
    split at h
    · simp at h; subst h; exact ⟨hs.hB, by simp⟩
    · have := hs.base i cb h; exact ⟨this.1, by simp; omega⟩
  · simp only [Cx.new] at h
    split at h
    · simp; omega
    · have := hs.dom i cb h; simp; omega
  · by_cases h : b = i
    · subst h; simp [hlt] at hi
    · rw [List.getElem?_set_ne h] at hi
      simp only [Cx.new, if_neg (Ne.symm h)] at hgi
      exact .inl ⟨hi, hgi, hold k (hs.base _ _ hgi).2⟩
  · by_cases h : b = i
    · subst h
      simp only [Cx.new, if_true] at hgi
      simp at hgi
      subst hgi
      simp [hlt] at hi
      obtain ⟨rfl, rfl, rfl, rfl, rfl⟩ := hi
      refine .inr ⟨arr', cap, hnew, hsa, hcap, hm, fun i x hi => ⟨(hn i x hi).1, fun j y hj => ?_⟩⟩
      obtain ⟨v, b1, b2, b3, b4⟩ := (hn i x hi).2 j y hj
      exact ⟨v, b1, b2, b3.ev ev, b4⟩
    · rw [List.getElem?_set_ne h] at hi
      simp only [Cx.new, if_neg (Ne.symm h)] at hgi
      exact .inl ⟨hi, hgi, hold k (hs.base _ _ hgi).2⟩
  · by_cases h : b = i
    · subst h; simp [hlt] at hi
    · rw [List.getElem?_set_ne h] at hi
      simp only [Cx.new, if_neg (Ne.symm h)] at hgi
      exact .inl ⟨hi, hgi, hold k (hs.base _ _ hgi).2⟩

/-- A walk through a string goes on. -/
theorem set_iter {w : World} {c : Cx} {H : AH} {B : Nat} (hs : HS w c H B) {b cb : Nat} {s : List UInt8} {p : Nat} (hb : H[b]? = some (.iter s p)) (hg : c.G b = some cb)
    {bs : ByteArray} (hc : w.heap[cb]? = some (.stringIter bs p)) (hbs : bs.data.toList = s) (q : Nat) :
    Ev w c H { w with heap := w.heap.setIfInBounds cb (.stringIter bs q) } c (H.set b (.iter s q)) ∧ HS { w with heap := w.heap.setIfInBounds cb (.stringIter bs q) } c (H.set b (.iter s q)) B ∧ Below B w { w with heap := w.heap.setIfInBounds cb (.stringIter bs q) } := by
  have hlt := lt_of_getElem? hb
  have hbase := hs.base b cb hg
  have other : ∀ k, k ≠ cb → ({ w with heap := w.heap.setIfInBounds cb (.stringIter bs q) } : World).heap[k]? = w.heap[k]? := fun k hk => by
    show (w.heap.setIfInBounds cb _)[k]? = _
    rw [Array.getElem?_setIfInBounds]
    simp [Ne.symm hk]
  have here : ({ w with heap := w.heap.setIfInBounds cb (.stringIter bs q) } : World).heap[cb]? = some (.stringIter bs q) := by
    show (w.heap.setIfInBounds cb _)[cb]? = _
    rw [Array.getElem?_setIfInBounds]
    simp [hbase.2]
  have size : ({ w with heap := w.heap.setIfInBounds cb (.stringIter bs q) } : World).heap.size = w.heap.size := by simp
  have ev : Ev w c H { w with heap := w.heap.setIfInBounds cb (.stringIter bs q) } c (H.set b (.iter s q)) := by
    refine ⟨rfl, by rw [size]; exact Nat.le_refl _, fun i bk hi => ?_, fun k hm => ?_, fun k _ hm => other k (fun e => hm (⟨b, _, hb, rfl, by rw [e]; exact hg⟩)), fun _ _ _ _ h => h⟩
    · by_cases h : b = i
      · subst h
        rw [hb] at hi
        cases hi
        exact ⟨.iter s q, by simp [hlt], rfl, fun _ h => h⟩
      · refine ⟨bk, by rw [List.getElem?_set_ne h]; exact hi, ?_⟩
        cases bk with
        | dead => trivial
        | box cs => exact ⟨rfl, fun _ h => h⟩
        | iter s p => exact ⟨rfl, fun _ h => h⟩
        | arr =>
          refine ⟨rfl, rfl, rfl, Nat.le_refl _, Nat.le_refl _, fun _ => ⟨rfl, fun cb' hc' => ⟨hc', ?_⟩⟩⟩
          have hne : cb' ≠ cb := fun e => h (hs.inj b i cb hg (by rw [← e]; exact hc'))
          simp only [rowSize, other cb' hne]
    · rcases hm with ⟨i, bk, hi, hlv, hgi⟩
      · by_cases h : b = i
        · subst h
          rw [hgi] at hg; cases hg
          exact .inl ⟨b, _, hb, rfl, hgi⟩
        · rw [List.getElem?_set_ne h] at hi
          exact .inl ⟨i, bk, hi, hlv, hgi⟩
  refine ⟨ev, hs.keep ev hs.inj (fun b cb h => by rw [size]; exact hs.base b cb h) (fun b cb h => by simp; exact hs.dom b cb h) (fun i k cs hi hgi => ?_) (fun i k e s z g l hi hgi => ?_) (fun i k s p hi hgi => ?_), ?_⟩
  · by_cases h : b = i
    · subst h; simp [hlt] at hi
    · rw [List.getElem?_set_ne h] at hi
      exact .inl ⟨hi, hgi, other k (fun e => h (hs.inj b i cb hg (by rw [← e]; exact hgi)))⟩
  · by_cases h : b = i
    · subst h; simp [hlt] at hi
    · rw [List.getElem?_set_ne h] at hi
      exact .inl ⟨hi, hgi, other k (fun e => h (hs.inj b i cb hg (by rw [← e]; exact hgi)))⟩
  · by_cases h : b = i
    · subst h
      rw [hgi] at hg; cases hg
      simp [hlt] at hi
      obtain ⟨rfl, rfl⟩ := hi
      exact .inr ⟨bs, here, hbs⟩
    · rw [List.getElem?_set_ne h] at hi
      exact .inl ⟨hi, hgi, other k (fun e => h (hs.inj b i cb hg (by rw [← e]; exact hgi)))⟩
  · exact ⟨rfl, rfl, rfl, by rw [size]; exact Nat.le_refl _, fun k hk => other k (by have := hbase.1; omega)⟩

/-! ### append, as the model runs it -/

section
variable {P : Program} (w : World)

/-- What is appended is read so, whatever has been drawn. -/
structure Reads (P : Program) (w : World) (size n : Nat) (x : Value) (news : List Value) : Prop where
  len : ∀ w' : World, (Builtin.lenOf x).run P w' = .ok n w'
  get : ∀ w' : World, w'.heap = w.heap → (Builtin.firstCells size n x).run P w' = .ok news.toArray w'
  num : news.length = n * size
  one : ∀ u ∈ news, u.oneCell' = true

theorem reads_slice {size n c : Nat} {a : Addr} {news : List Value} (hl : news.length = n * size) (h : ∀ (j : Nat) v, news[j]? = some v → w.cell? (a.add j) = some v) (h1 : ∀ u ∈ news, u.oneCell' = true) :
    Reads P w size n (.slice (some a) n c) news :=
  ⟨fun w' => rfl, fun w' hw => run_firstCells_some w' size n a n c news hl (fun j v hj => by rw [← h j v hj]; simp only [World.cell?, hw]), hl, h1⟩

theorem reads_nil {size : Nat} : Reads P w size 0 (.slice none 0 0) [] :=
  ⟨fun w' => rfl, fun w' hw => run_firstCells_none w' size 0 0 0, by simp, by simp⟩

theorem reads_empty {size : Nat} (a : Addr) (c : Nat) : Reads P w size 0 (.slice (some a) 0 c) [] :=
  reads_slice w (by simp) (by simp) (by simp)

theorem reads_str (s : ByteArray) : Reads P w 1 s.size (.string s) (s.data.toList.map fun b => .int .u8 (b.toNat : Int)) := by
  refine ⟨fun w' => rfl, fun w' _ => ?_, by rw [List.length_map, Nat.mul_one]; rfl, fun u hu => by obtain ⟨b, _, rfl⟩ := List.mem_map.1 hu; rfl⟩
  have hx : s.extract 0 s.size = s := by
    apply ByteArray.ext
    rw [ByteArray.data_extract]
    exact Array.extract_size
  simp only [Builtin.firstCells, hx, Sem.run_pure]
  congr 1
  apply Array.ext'
  simp

theorem run_app_grow (t u ty e : TypeId) (i : TypeInfo) (z : Value) (ht : P.underlying t = some (.slice e)) (hu : ∃ d, P.underlying u = some d ∧ ∀ k, d ≠ .int k) (hi : P.info? e = some i) (hz : i.zero = some z)
    (base : Option Addr) (sLen sCap : Nat) (olds : List Value) (ho : ∀ w' : World, w'.heap = w.heap → (Builtin.firstCells i.size sLen (.slice base sLen sCap)).run P w' = .ok olds.toArray w')
    (x : Value) (n : Nat) (news : List Value) (hx : Reads P w i.size n x news)
    (hg : sCap < sLen + n) (h63 : sLen + n ≤ 9223372036854775807) (hfit : (sLen + n) * i.bytes ≤ 140737488355328 ∨ ((sLen + n) + (sLen + n) / 4 + 192) * i.bytes ≤ 281474976710656) :
    (Builtin.append_ #[t, u] ty #[.slice base sLen sCap, x]).run P w =
      .ok (.slice (some ⟨w.heap.size, 0, none⟩) (sLen + n) (grownCap w (sLen + n) sCap e))
        (w.drew.alloc (.cells (olds.toArray ++ news.toArray ++ Builtin.zeroCells z.cells (grownCap w (sLen + n) sCap e - (sLen + n))) e)) := by
  obtain ⟨d, hu, hd⟩ := hu
  have hn : ¬ (sLen + n ≤ sCap) := by omega
  have h63' : ¬ (9223372036854775807 < ((sLen : Int) + (n : Int))) := by omega
  have hfit' : Builtin.nextslicecap (sLen + n) sCap * i.bytes ≤ 281474976710656 := hfit.elim (growslice_fits (by omega : sCap < sLen + n)) (growslice_fits_wide (by omega : sCap < sLen + n))
  have h48' : ¬ (281474976710656 < Builtin.nextslicecap (sLen + n) sCap * i.bytes) := by omega
  have hf := hx.get w.drew rfl
  have hfo := ho w.drew rfl
  have hnot : (match d with | TypeDesc.int _ => true | _ => false) = false := by cases d <;> first | rfl | exact (hd _ rfl).elim
  simp [Builtin.append_, run_underlying ht, run_underlying hu, hnot, sizeOf, typeInfo, zeroValue, hi, hz, hx.len, hn, h63', h48', Question.forced, hf, hfo, newRow, grownCap]
  congr 2
  apply Array.ext'
  simp [List.append_assoc]

theorem run_app_room (t u ty e : TypeId) (i : TypeInfo) (ht : P.underlying t = some (.slice e)) (hu : ∃ d, P.underlying u = some d ∧ ∀ k, d ≠ .int k) (hi : P.info? e = some i)
    (g sLen sCap : Nat) (cur : Array Value) (hg : w.heap[g]? = some (.cells cur e (0, 0)))
    (x : Value) (n : Nat) (news : List Value) (hx : Reads P w i.size n x news)
    (hroom : sLen + n ≤ sCap) (hfit : sLen * i.size + news.length ≤ cur.size) :
    (Builtin.append_ #[t, u] ty #[.slice (some ⟨g, 0, none⟩) sLen sCap, x]).run P w =
      .ok (.slice (some ⟨g, 0, none⟩) (sLen + n) sCap) (w.setRow g (cur.toList.take (sLen * i.size) ++ news ++ cur.toList.drop (sLen * i.size + news.length)).toArray) := by
  obtain ⟨d, hu, hd⟩ := hu
  have hf := hx.get w rfl
  have hst := run_storeCells_at P g (sLen * i.size) e news 0 cur w hg (by simpa using hfit) hx.one
  simp only [Nat.add_zero] at hst
  have hnot : (match d with | TypeDesc.int _ => true | _ => false) = false := by cases d <;> first | rfl | exact (hd _ rfl).elim
  simp [Builtin.append_, run_underlying ht, run_underlying hu, hnot, sizeOf, typeInfo, hi, hx.len, hroom, hf, Addr.add_lit, hst]

theorem run_app_nil0 (t u ty e : TypeId) (i : TypeInfo) (ht : P.underlying t = some (.slice e)) (hu : ∃ d, P.underlying u = some d ∧ ∀ k, d ≠ .int k) (hi : P.info? e = some i)
    (x : Value) (news : List Value) (hx : Reads P w i.size 0 x news) :
    (Builtin.append_ #[t, u] ty #[.slice none 0 0, x]).run P w = .ok (.slice none 0 0) w := by
  obtain ⟨d, hu, hd⟩ := hu
  have hf := hx.get w rfl
  have hnot : (match d with | TypeDesc.int _ => true | _ => false) = false := by cases d <;> first | rfl | exact (hd _ rfl).elim
  simp [Builtin.append_, run_underlying ht, run_underlying hu, hnot, sizeOf, typeInfo, hi, hx.len, hf]

theorem run_app_emp0 (t u ty e : TypeId) (i : TypeInfo) (ht : P.underlying t = some (.slice e)) (hu : ∃ d, P.underlying u = some d ∧ ∀ k, d ≠ .int k) (hi : P.info? e = some i)
    (a : Addr) (x : Value) (news : List Value) (hx : Reads P w i.size 0 x news) :
    (Builtin.append_ #[t, u] ty #[.slice (some a) 0 0, x]).run P w = .ok (.slice (some a) 0 0) w := by
  obtain ⟨d, hu, hd⟩ := hu
  have hf := hx.get w rfl
  have hnum := hx.num
  have : news = [] := List.eq_nil_of_length_eq_zero (by simpa using hnum)
  subst this
  have hnot : (match d with | TypeDesc.int _ => true | _ => false) = false := by cases d <;> first | rfl | exact (hd _ rfl).elim
  simp [Builtin.append_, run_underlying ht, run_underlying hu, hnot, sizeOf, typeInfo, hi, hx.len, hf, storeCells]
end

end Go.Proofs.YthpkehhghcpolaaDoor

namespace Go.Proofs.YthpkehhghcpolaaDoor
open Go.RowKit
set_option linter.unusedVariables false
set_option linter.unusedSimpArgs false

/-- One step that gives a value. -/
def MOut (P : Program) (m : Sem Value) (w : World) (c : Cx) (H : AH) (B : Nat) (K : AV → AH → Prop) : Prop :=
  ∃ v val w' c' H', m.run P w = .ok val w' ∧ RA w' c' H' v val ∧ HS w' c' H' B ∧ Ev w c H w' c' H' ∧ Below B w w' ∧ K v H'

theorem MOut.here {P : Program} {m : Sem Value} {w c H B K v val} (hs : HS w c H B) (hr : m.run P w = .ok val w) (ha : RA w c H v val) (k : K v H) : MOut P m w c H B K :=
  ⟨v, val, w, c, H, hr, ha, hs, Ev.refl _ _ _, Below.refl _ _, k⟩

theorem MOut.data {P : Program} {m : Sem Value} {w c H B} {K : AV → AH → Prop} {x : T} {val : Value} (hs : HS w c H B) (hr : m.run P w = .ok val w) (ha : RT w (c.M H) x val) (k : K (.t x) H) : MOut P m w c H B K :=
  .here hs hr (.t _ _ ha) k

theorem RA.int {w c H k n v} (h : RA w c H (.t (.int k n)) v) : v = .int k n := by cases h with | t _ _ h => cases h; rfl
theorem RA.bool {w c H b v} (h : RA w c H (.t (.bool b)) v) : v = .bool b := by cases h with | t _ _ h => cases h; rfl
theorem RA.str {w c H l v} (h : RA w c H (.t (.str l)) v) : ∃ s : ByteArray, v = .string s ∧ s.data.toList = l := by
  cases h with
  | t _ _ h => cases h with | str s => exact ⟨s, rfl, rfl⟩

section
variable {P : Program} {w : World}

theorem xint_ok {st : Bool} {op : BinOp} {k k' : IntKind} {a b : Int} {K : T → Prop} (h : xint st op k a k' b K) (ty : TypeId) :
    ∃ x val, (binOp op ty (.int k a) (.int k' b)).run P w = .ok val w ∧ (∀ w M, RT w M x val) ∧ K x := by
  cases op <;> simp only [xint, ck_iff, stop_iff, bitsOp] at h <;>
    first
    | (obtain ⟨hk, h⟩ := h
       obtain rfl := sameK_eq hk
       first
       | (obtain ⟨hb, h⟩ := h
          simp at hb
          exact ⟨_, _, by simp [binOp, Op.intDiv, hb], fun _ _ => .int _ _, h⟩)
       | exact ⟨_, _, by simp [binOp, Op.intArith, Op.intBits, Op.intCmp], fun _ _ => .int _ _, h⟩
       | exact ⟨_, _, by simp [binOp, Op.intArith, Op.intBits, Op.intCmp], fun _ _ => .bool _, h⟩)
    | (obtain ⟨hb, h⟩ := h
       have hb' : ¬ b < 0 := by simpa using hb
       exact ⟨_, _, by simp [binOp, Op.shift, hb'], fun _ _ => .int _ _, h⟩)

theorem xstr_ok {op : BinOp} {a b : List UInt8} {K : T → Prop} (h : xstr op a b K) (ty : TypeId) (s u : ByteArray) (hs : s.data.toList = a) (hu : u.data.toList = b) :
    ∃ x val, (binOp op ty (.string s) (.string u)).run P w = .ok val w ∧ (∀ w M, RT w M x val) ∧ K x := by
  have h1 : s.toList = a := by rw [ByteArray.toList_eq, hs]
  have h2 : u.toList = b := by rw [ByteArray.toList_eq, hu]
  have z1 : s.size = a.length := by rw [← hs]; rfl
  have z2 : u.size = b.length := by rw [← hu]; rfl
  cases op <;> simp only [xstr, ck_iff] at h <;>
    first
    | exact h.elim
    | (obtain ⟨hb, h⟩ := h
       have hb' : ¬ (((s.size + u.size : Nat) : Int) > IntKind.i64.max) := by simp at hb ⊢; omega
       refine ⟨.str (a ++ b), .string (s ++ u), by simp only [binOp, Op.stringOp, if_neg hb', Sem.run_pure], fun _ _ => ?_, h⟩
       have e : (s ++ u).data.toList = a ++ b := by simp [hs, hu]
       rw [← e]; exact .str _)
    | exact ⟨_, _, by simp [binOp, Op.stringOp, h1, h2], fun _ _ => .bool _, h⟩

theorem xun_ok {st : Bool} {op : UnOp} {x : AV} {K : T → Prop} {c H v} (h : xun st op x K) (hv : RA w c H x v) :
    ∃ y val, (Op.unary op v).run P w = .ok val w ∧ (∀ w M, RT w M y val) ∧ K y := by
  unfold xun at h
  split at h
  · obtain rfl := hv.int; exact ⟨_, _, by simp [Op.unary, Op.intArith], fun _ _ => .int _ _, stop_iff.1 h⟩
  · obtain rfl := hv.int; exact ⟨_, _, by simp [Op.unary, Op.intBits, bitsOp], fun _ _ => .int _ _, stop_iff.1 h⟩
  · obtain rfl := hv.bool; exact ⟨_, _, by simp [Op.unary], fun _ _ => .bool _, h⟩
  · exact h.elim

/-- Plain cells. -/
theorem eq1_ok {tab : Tab} (hT : TabOK P tab) {ty : TypeId} {y : TyI} (hy : tab ty = some y) {a b : T} {u v : Value} {M : Nat → Prop} (ha : RT w M a u) (hb : RT w M b v) (h1 : tyIs1 y.d a = true) (h2 : tyIs1 y.d b = true)
    {p : Bool} (he : eq1 a b = some p) (d : Nat) : (Op.equalIn (d + 1) ty u v).run P w = .ok p w ∧ (isAgg ty).run P w = .ok false w := by
  have hd := (hT ty y hy).d
  cases hyd : y.d <;> rw [hyd] at hd h1 h2 <;> cases a <;> simp [tyIs1] at h1 <;> cases b <;> simp [tyIs1] at h2 <;> simp [eq1] at he
  · cases ha; cases hb; subst he; exact ⟨by simp [Op.equalIn, run_underlying hd], by simp [isAgg, run_underlying hd]⟩
  · cases ha; cases hb
    split at he
    · rename_i hk
      obtain rfl := sameK_eq hk
      simp at he
      subst he
      exact ⟨by simp [Op.equalIn, run_underlying hd], by simp [isAgg, run_underlying hd]⟩
    · cases he
  · cases ha with
    | str s =>
    cases hb with
    | str s' =>
    subst he
    refine ⟨?_, by simp [isAgg, run_underlying hd]⟩
    simp [Op.equalIn, run_underlying hd, beq_toListBytes, ByteArray.toList_eq]

theorem run_part1 {ty : TypeId} (h : (isAgg ty).run P w = .ok false w) {cs : Array Value} {off : Nat} {v : Value} (hv : cs[off]? = some v) : (part ty cs off).run P w = .ok v w := by
  simp [part, h, hv]

theorem eqFs_ok {tab : Tab} (hT : TabOK P tab) {xs ys : List T} {us vs : Array Value} {M : Nat → Prop} (hl1 : xs.length = us.size) (hl2 : ys.length = vs.size)
    (hx : ∀ (i : Nat) c v, xs[i]? = some c → us[i]? = some v → RT w M c v) (hy : ∀ (i : Nat) c v, ys[i]? = some c → vs[i]? = some v → RT w M c v) (d : Nat) :
    ∀ (fs : List Field) (p : Bool), eqFs tab xs ys fs = some p → (Op.eqFields (d + 1) us vs fs).run P w = .ok p w
  | [], p, h => by simp [eqFs] at h; subst h; simp [Op.eqFields]
  | f :: r, p, h => by
    simp only [eqFs] at h
    split at h
    · rename_i y a b hy0 ha hb
      split at h
      · rename_i p1 q hc he hq
        simp at h hc
        obtain ⟨u, hu⟩ : ∃ u, us[f.offset]? = some u := by
          have := lt_of_getElem? ha
          exact ⟨us[f.offset]'(by omega), Array.getElem?_eq_getElem _⟩
        obtain ⟨v, hv⟩ : ∃ v, vs[f.offset]? = some v := by
          have := lt_of_getElem? hb
          exact ⟨vs[f.offset]'(by omega), Array.getElem?_eq_getElem _⟩
        obtain ⟨r1, r2⟩ := eq1_ok hT hy0 (hx _ _ _ ha hu) (hy _ _ _ hb hv) hc.1.1 hc.1.2 he d
        have ih := eqFs_ok hT hl1 hl2 hx hy d r q hq
        simp only [Op.eqFields, ne_eq, hc.2, not_false_eq_true, if_true, Sem.run_bind, run_part1 r2 hu, run_part1 r2 hv, Result.andThen_ok, r1, Sem.run_ite]
        cases p1
        · simp at h; subst h; simp
        · simp at h; subst h; simp [ih]
      · cases h
    · cases h

theorem fieldsOf_eq {t : TypeId} {fs : Array Field} (h : P.underlying t = some (.struct fs)) : P.fieldsOf t = fs := by simp [Program.fieldsOf, h]

/-- What a value looks like of which is told whether it is nil. -/
def nilShape : TypeDesc → Bool → Value → Prop
  | .slice _, p, u => ∃ a n m, u = .slice a n m ∧ a.isNone = p
  | .pointer _, p, u => ∃ a, u = .pointer a ∧ a.isNone = p
  | .func _ _ _, p, u => (p = true ∧ u = .nilFunc) ∨ (p = false ∧ ∃ f a b, u = .func f a b)
  | .interface _, p, u => (p = true ∧ u = .nilIface) ∨ (p = false ∧ ∃ t v, u = .iface t v)
  | _, _, _ => False

theorem nilShape_ok {d : TypeDesc} {c H x u p} (hx : RA w c H x u) (h : kindFits d x = true) (hp : isNil H x = some p) : nilShape d p u := by
  cases hx with
  | t x u hx =>
    cases hx <;> cases d <;> first
      | (simp [kindFits] at h; done)
      | (simp [isNil] at hp; subst hp; simp [nilShape])
  | ptr b g i o v blk hb hm =>
    cases d <;> first
      | (simp [kindFits] at h; done)
      | skip
    simp only [isNil, hb] at hp
    cases blk with
    | box cells =>
      obtain ⟨cb, _, rfl⟩ := hm
      simp at hp; subst hp
      exact ⟨_, rfl, rfl⟩
    | dead => simp at hp
    | iter => simp at hp
    | arr e s z gen l =>
      simp only at hp
      split at hp
      · rename_i hg
        obtain ⟨cb, _, rfl⟩ := hm.2 (Nat.eq_of_beq_eq_true hg)
        simp at hp; subst hp
        exact ⟨_, rfl, rfl⟩
      · cases hp
  | sl b g i n v blk hb hm =>
    cases d <;> first
      | (simp [kindFits] at h; done)
      | skip
    simp only [isNil, hb] at hp
    cases blk with
    | box cells => simp at hp
    | dead => simp at hp
    | iter => simp at hp
    | arr e s z gen l =>
      simp only at hp
      split at hp
      · rename_i hg
        have hg := Nat.eq_of_beq_eq_true hg
        simp at hp
        obtain ⟨_, h2⟩ := hm.2 hg
        rcases h2 with ⟨z1, l1, rfl⟩ | ⟨z1, l1, ad, rfl⟩ | ⟨z1, cb, cap, off, _, rfl, _⟩
        · exact ⟨_, _, _, rfl, by rw [← hp]; simp [z1, l1]⟩
        · exact ⟨_, _, _, rfl, by rw [← hp]; simp [z1]⟩
        · refine ⟨_, _, _, rfl, ?_⟩
          rw [← hp]
          by_cases hz : z = true
          · have hne : ¬ l.length = 0 := fun e => z1 ⟨hz, e⟩
            have : Nat.beq l.length 0 = false := by rw [Bool.eq_false_iff]; exact fun e => hne (Nat.eq_of_beq_eq_true e)
            simp [hz, this]
          · simp [hz]
      · cases hp
  | emp a =>
    cases d <;> first
      | (simp [kindFits] at h; done)
      | skip
    simp [isNil] at hp; subst hp; exact ⟨_, _, _, rfl, rfl⟩
  | fn f a b x y => cases d <;> first
      | (simp [kindFits] at h; done)
      | (simp [isNil] at hp; subst hp; simp [nilShape])
  | ifc t x v => cases d <;> first
      | (simp [kindFits] at h; done)
      | (simp [isNil] at hp; subst hp; simp [nilShape])
  | agg => simp [isNil] at hp
  | tup => simp [isNil] at hp
  | junk => simp [isNil] at hp

theorem run_eql_of {ty : TypeId} {u v : Value} {p : Bool} (he : ∀ d, (Op.equalIn (d + 1) ty u v).run P w = .ok p w)
    (h1 : binOp .eql ty u v = (do pure (.bool (← Op.equal ty u v)))) (h2 : binOp .neq ty u v = (do pure (.bool (!(← Op.equal ty u v))))) :
    (binOp .eql ty u v).run P w = .ok (.bool p) w ∧ (binOp .neq ty u v).run P w = .ok (.bool (!p)) w := by
  have e : (Op.equal ty u v).run P w = .ok p w := he 9999
  rw [h1, h2]
  simp only [Sem.run_bind, e, Result.andThen_ok, Sem.run_pure, and_self]

/-- A nil, and what may stand where it stands. -/
theorem isNil_ok {tab : Tab} (hT : TabOK P tab) {ty : TypeId} {y : TyI} (hy : tab ty = some y) {c H x n u v} (hx : RA w c H x u) (hn : RA w c H n v) (h1 : nilFits y.d n = true) (h2 : kindFits y.d x = true)
    {p : Bool} (hp : isNil H x = some p) (yc : Bool) (hc : (yc || !isIfaceD y.d) = true) (o : BinOp) (xo yo : Operand) (hyc : yc = isConst yo) :
    (eqGuard o ty xo yo u v).run P w = .ok () w ∧ (binOp .eql ty u v).run P w = .ok (.bool p) w ∧ (binOp .neq ty u v).run P w = .ok (.bool (!p)) w := by
  have hd := (hT ty y hy).d
  have hsh := nilShape_ok (d := y.d) hx h2 hp
  cases hyd : y.d <;> rw [hyd] at hd h1 hsh hc <;> (try (simp [nilShape] at hsh; done))
  case slice e =>
    obtain ⟨a, k, m, rfl, rfl⟩ := hsh
    have hv : v = .slice none 0 0 := by
      cases n <;> simp [nilFits] at h1
      rename_i x; cases x <;> simp [nilFits] at h1
      cases hn with | t _ _ hn => cases hn; rfl
    subst hv
    cases a <;> exact ⟨by rw [eqGuard_at_slice]; rfl, run_eql_of (fun d => by simp [Op.equalIn, run_underlying hd]) rfl rfl⟩
  case pointer e =>
    obtain ⟨a, rfl, rfl⟩ := hsh
    have hv : v = .pointer none := by
      cases n <;> simp [nilFits] at h1
      rename_i x; cases x <;> simp [nilFits] at h1
      cases hn with | t _ _ hn => cases hn; rfl
    subst hv
    cases a <;> exact ⟨by rw [eqGuard_at_pointer]; rfl, run_eql_of (fun d => by simp [Op.equalIn, run_underlying hd]) rfl rfl⟩
  case func p1 p2 p3 =>
    have hv : v = .nilFunc := by
      cases n <;> simp [nilFits] at h1
      rename_i x; cases x <;> simp [nilFits] at h1
      cases hn with | t _ _ hn => cases hn; rfl
    subst hv
    rcases hsh with ⟨rfl, rfl⟩ | ⟨rfl, f, a, b, rfl⟩
    · exact ⟨by rw [eqGuard_at_nilFunc]; rfl, run_eql_of (fun d => by simp [Op.equalIn, run_underlying hd]) rfl rfl⟩
    · exact ⟨by rw [eqGuard_at_func]; rfl, run_eql_of (fun d => by simp [Op.equalIn, run_underlying hd]) rfl rfl⟩
  case interface ms =>
    have hv : v = .nilIface := by
      cases n <;> simp [nilFits] at h1
      rename_i x; cases x <;> simp [nilFits] at h1
      cases hn with | t _ _ hn => cases hn; rfl
    subst hv
    simp [isIfaceD] at hc
    subst hc
    obtain ⟨cv, rfl⟩ : ∃ cv, yo = .const cv := by cases yo <;> simp [isConst] at hyc; exact ⟨_, rfl⟩
    rcases hsh with ⟨rfl, rfl⟩ | ⟨rfl, t, b, rfl⟩
    · exact ⟨by rw [eqGuard_nil_constR]; rfl, run_eql_of (fun d => by simp [Op.equalIn, run_underlying hd]) rfl rfl⟩
    · exact ⟨by rw [eqGuard_at_iface]; rfl, run_eql_of (fun d => by simp [Op.equalIn, run_underlying hd]) rfl rfl⟩

theorem RA.toAgg {c H x v} (h : RA w c H x v) : RA w c H (toAgg x) v := by
  cases x <;> simp only [Go.Proofs.YthpkehhghcpolaaDoor.toAgg] <;> try exact h
  rename_i cs
  split
  · rename_i l hl
    have key : ∀ (cs : List AV) (l : List T), toTs cs = some l → l.length = cs.length ∧ ∀ (i : Nat) y, l[i]? = some y → cs[i]? = some (.t y) := by
      intro cs
      induction cs with
      | nil => intro l h; simp [toTs] at h; subst h; simp
      | cons a r ih =>
        intro l h
        simp only [toTs] at h
        split at h
        · rename_i x l' hx hl'
          cases h
          obtain ⟨h1, h2⟩ := ih l' hl'
          have ha : a = .t x := by cases a <;> simp [toT1] at hx; rw [hx]
          refine ⟨by simp [h1], fun i y hi => ?_⟩
          cases i with
          | zero => simp at hi ⊢; rw [ha, hi]
          | succ i => simp at hi ⊢; exact h2 i y hi
        · cases h
    obtain ⟨k1, k2⟩ := key cs l hl
    cases h with
    | agg _ vs hlen h1 hr =>
      refine .t _ _ (.agg l vs (by omega) (fun i y hi => ?_) (fun i y v hi hv => ?_))
      · have := h1 i _ (k2 i y hi); simpa [AV.one] using this
      · have := hr i _ v (k2 i y hi) hv
        cases this with | t _ _ h => exact h
  · exact h

theorem xeq_ok {tab : Tab} (hT : TabOK P tab) {ty : TypeId} {c H x y u v} {yc : Bool} {K : Bool → Prop} (h : xeq tab ty H x y yc K) (hx : RA w c H x u) (hy : RA w c H y v)
    (xo yo : Operand) (hyc : yc = isConst yo) : ∃ p, (∀ o, (eqGuard o ty xo yo u v).run P w = .ok () w) ∧ (binOp .eql ty u v).run P w = .ok (.bool p) w ∧ (binOp .neq ty u v).run P w = .ok (.bool (!p)) w ∧ K p := by
  unfold xeq at h
  rw [opt_iff] at h
  obtain ⟨i, hi, h⟩ := h
  have hd := (hT ty i hi).d
  split at h
  · obtain rfl := hx.bool; obtain rfl := hy.bool
    rename_i a b
    rw [ck_iff] at h
    obtain ⟨hc, h⟩ := h
    have hb : i.d = .bool := by cases hdd : i.d <;> simp [hdd] at hc <;> rfl
    rw [hb] at hd
    have e := run_eql_of (P := P) (w := w) (ty := ty) (u := .bool a) (v := .bool b) (p := a == b) (fun d => by simp [Op.equalIn, run_underlying hd]) rfl rfl
    exact ⟨a == b, fun o => by rw [eqGuard_at_bool]; rfl, e.1, e.2, h⟩
  · rename_i a b
    split at h
    · rename_i fs hf
      obtain ⟨hok, h⟩ := h
      rw [opt_iff] at h
      obtain ⟨p, hp, h⟩ := h
      obtain ⟨k1, k2⟩ := (hT ty i hi).eq hok
      rw [hf] at hd
      cases hx with | t _ _ hx => cases hx with | agg _ us hl1 _ hr1 =>
      cases hy with | t _ _ hy => cases hy with | agg _ vs hl2 _ hr2 =>
      have e := eqFs_ok hT hl1 hl2 hr1 hr2 9998 fs.toList p hp
      have e2 : (Op.equalIn 10000 ty (.agg us) (.agg vs)).run P w = .ok p w := by
        rw [run_equalIn_struct w 9999 ty us vs (by rw [fieldsOf_eq hd]; exact hd) k1, fieldsOf_eq hd]; exact e
      exact ⟨p, fun o => run_eqGuard_agg w o ty xo yo us vs k2, by rw [run_eql_struct, e2]; rfl, by rw [run_neq_struct, e2]; rfl, h⟩
    · exact h.elim
  · rw [ck_iff] at h
    obtain ⟨hc, h⟩ := h
    simp at hc
    rw [opt_iff] at h
    obtain ⟨p, hp, h⟩ := h
    exact ⟨p, fun o => (isNil_ok hT hi hx hy hc.1.1.2 hc.1.2 hp yc (by simpa using hc.2) o xo yo hyc).1, (isNil_ok hT hi hx hy hc.1.1.2 hc.1.2 hp yc (by simpa using hc.2) .eql xo yo hyc).2.1, (isNil_ok hT hi hx hy hc.1.1.2 hc.1.2 hp yc (by simpa using hc.2) .eql xo yo hyc).2.2, h⟩

end
end Go.Proofs.YthpkehhghcpolaaDoor

namespace Go.Proofs.YthpkehhghcpolaaDoor
open Go.RowKit
set_option linter.unusedVariables false
set_option linter.unusedSimpArgs false

section
variable {P : Program} {w : World}

theorem run_isAgg {tab : Tab} (hT : TabOK P tab) {t : TypeId} {y : TyI} (hy : tab t = some y) (w : World) : (isAgg t).run P w = .ok y.isAgg w := by
  have hd := (hT t y hy).d
  simp only [isAgg, Sem.run_bind, run_underlying hd, Result.andThen_ok, TyI.isAgg]
  cases y.d <;> rfl

theorem run_sizeOf {tab : Tab} (hT : TabOK P tab) {t : TypeId} {y : TyI} (hy : tab t = some y) (w : World) : (sizeOf t).run P w = .ok y.size w := by
  obtain ⟨i, hi, hs, _⟩ := (hT t y hy).info
  simp [sizeOf, typeInfo, hi, hs]

theorem run_loadVar_agg {tab : Tab} (hT : TabOK P tab) {t : TypeId} {y : TyI} (hy : tab t = some y) (ha : y.isAgg = true) {b off : Nat} {vals : List Value} (hl : vals.length = y.size)
    (h : ∀ (j : Nat) v, vals[j]? = some v → w.cell? ⟨b, off + j, none⟩ = some v) : (loadVar t ⟨b, off, none⟩).run P w = .ok (.agg vals.toArray) w := by
  have e := run_loadCells_list (P := P) w ⟨b, off, none⟩ vals (fun j v hj => by rw [Addr.add_lit]; exact h j v hj)
  rw [hl] at e
  simp [loadVar, run_isAgg hT hy, ha, run_sizeOf hT hy, e]

theorem run_loadVar_one {tab : Tab} (hT : TabOK P tab) {t : TypeId} {y : TyI} (hy : tab t = some y) (ha : y.isAgg = false) {b off : Nat} {v : Value}
    (h : w.cell? ⟨b, off, none⟩ = some v) : (loadVar t ⟨b, off, none⟩).run P w = .ok v w := by
  simp [loadVar, run_isAgg hT hy, ha, h]

theorem run_part_agg {tab : Tab} (hT : TabOK P tab) {t : TypeId} {y : TyI} (hy : tab t = some y) (ha : y.isAgg = true) (cs : Array Value) (off : Nat) :
    (part t cs off).run P w = .ok (.agg (cs.extract off (off + y.size))) w := by
  simp [part, run_isAgg hT hy, ha, run_sizeOf hT hy]

theorem run_part_one {tab : Tab} (hT : TabOK P tab) {t : TypeId} {y : TyI} (hy : tab t = some y) (ha : y.isAgg = false) {cs : Array Value} {off : Nat} {v : Value} (h : cs[off]? = some v) :
    (part t cs off).run P w = .ok v w := by
  simp [part, run_isAgg hT hy, ha, h]

theorem getElem?_take_drop {α : Type} {l : List α} {o n i : Nat} {x : α} (h : ((l.drop o).take n)[i]? = some x) : i < n ∧ l[o + i]? = some x := by
  rw [List.getElem?_take] at h
  split at h
  · rw [List.getElem?_drop] at h; exact ⟨‹_›, h⟩
  · cases h

theorem arr_get {α : Type} {a : Array α} {i : Nat} (h : i < a.size) : ∃ v, a[i]? = some v := ⟨a[i], Array.getElem?_eq_getElem h⟩

/-- The parts of a value of a struct's or an array's type. -/
theorem partA_ok {tab : Tab} (hT : TabOK P tab) {t : TypeId} {y : TyI} (hy : tab t = some y) {c H} {cells : List AV} {vs : Array Value} (hl : cells.length = vs.size) (h1 : ∀ (i : Nat) x, cells[i]? = some x → x.one = true)
    (hr : ∀ (i : Nat) x v, cells[i]? = some x → vs[i]? = some v → RA w c H x v) {o : Nat} {K : AV → Prop} (h : partA y cells o K) :
    ∃ x val, (part t vs o).run P w = .ok val w ∧ RA w c H x val ∧ K x := by
  unfold partA at h
  split at h
  · rename_i ha
    rw [ck_iff] at h
    obtain ⟨hb, k⟩ := h
    have hb := Nat.le_of_ble_eq_true hb
    refine ⟨_, _, run_part_agg hT hy ha vs o, .agg _ _ (by simp; omega) (fun i x hi => h1 _ x (getElem?_take_drop hi).2) (fun i x v hi hv => ?_), k⟩
    obtain ⟨hlt, hi⟩ := getElem?_take_drop hi
    refine hr _ x v hi ?_
    rw [Array.getElem?_extract] at hv
    split at hv
    · exact hv
    · cases hv
  · rename_i ha
    rw [opt_iff] at h
    obtain ⟨x, hx, k⟩ := h
    obtain ⟨v, hv⟩ := arr_get (a := vs) (i := o) (by have := lt_of_getElem? hx; omega)
    exact ⟨x, v, run_part_one hT hy ha hv, hr o x v hx hv, k⟩

theorem partT_ok {tab : Tab} (hT : TabOK P tab) {t : TypeId} {y : TyI} (hy : tab t = some y) {M : Nat → Prop} {cells : List T} {vs : Array Value} (hl : cells.length = vs.size) (h1 : ∀ (i : Nat) x, cells[i]? = some x → x.one = true)
    (hr : ∀ (i : Nat) x v, cells[i]? = some x → vs[i]? = some v → RT w M x v) {o : Nat} {K : T → Prop} (h : partT y cells o K) :
    ∃ x val, (part t vs o).run P w = .ok val w ∧ RT w M x val ∧ K x := by
  unfold partT at h
  split at h
  · rename_i ha
    rw [ck_iff] at h
    obtain ⟨hb, k⟩ := h
    have hb := Nat.le_of_ble_eq_true hb
    refine ⟨_, _, run_part_agg hT hy ha vs o, .agg _ _ (by simp; omega) (fun i x hi => h1 _ x (getElem?_take_drop hi).2) (fun i x v hi hv => ?_), k⟩
    obtain ⟨hlt, hi⟩ := getElem?_take_drop hi
    refine hr _ x v hi ?_
    rw [Array.getElem?_extract] at hv
    split at hv
    · exact hv
    · cases hv
  · rename_i ha
    rw [opt_iff] at h
    obtain ⟨x, hx, k⟩ := h
    obtain ⟨v, hv⟩ := arr_get (a := vs) (i := o) (by have := lt_of_getElem? hx; omega)
    exact ⟨x, v, run_part_one hT hy ha hv, hr o x v hx hv, k⟩

/-- A variable in memory: its cells from 'off + o' on. -/
theorem loadA_ok {tab : Tab} (hT : TabOK P tab) {t : TypeId} {y : TyI} (hy : tab t = some y) {c H} {cells : List AV} {b off : Nat} (vals : Nat → Value)
    (hr : ∀ (i : Nat) x, cells[i]? = some x → x.one = true ∧ w.cell? ⟨b, off + i, none⟩ = some (vals i) ∧ RA w c H x (vals i)) {o : Nat} {K : AV → Prop} (h : partA y cells o K) :
    ∃ x val, (loadVar t ⟨b, off + o, none⟩).run P w = .ok val w ∧ RA w c H x val ∧ K x := by
  unfold partA at h
  split at h
  · rename_i ha
    rw [ck_iff] at h
    obtain ⟨hb, k⟩ := h
    have hb := Nat.le_of_ble_eq_true hb
    have cell : ∀ j, j < y.size → w.cell? ⟨b, off + o + j, none⟩ = some (vals (o + j)) := fun j hj => by
      have := (hr (o + j) _ (List.getElem?_eq_getElem (by omega))).2.1
      rw [Nat.add_assoc]; exact this
    refine ⟨_, _, run_loadVar_agg hT hy ha (vals := (List.range y.size).map fun j => vals (o + j)) (by simp) (fun j v hj => ?_), .agg _ _ (by simp; omega) (fun i x hi => (hr _ x (getElem?_take_drop hi).2).1) (fun i x v hi hv => ?_), k⟩
    · simp only [List.getElem?_map, Option.map_eq_some_iff] at hj
      obtain ⟨k, hk, rfl⟩ := hj
      have := lt_of_getElem? hk
      rw [List.length_range] at this
      rw [List.getElem?_range this] at hk
      cases hk
      exact cell _ this
    · obtain ⟨hlt, hi⟩ := getElem?_take_drop hi
      have : v = vals (o + i) := by simp [hlt] at hv; exact hv.symm
      subst this
      exact (hr _ x hi).2.2
  · rename_i ha
    rw [opt_iff] at h
    obtain ⟨x, hx, k⟩ := h
    exact ⟨x, _, run_loadVar_one hT hy ha (hr o x hx).2.1, (hr o x hx).2.2, k⟩

theorem loadT_ok {tab : Tab} (hT : TabOK P tab) {t : TypeId} {y : TyI} (hy : tab t = some y) {M : Nat → Prop} {cells : List T} {b off : Nat} (vals : Nat → Value)
    (hr : ∀ (i : Nat) x, cells[i]? = some x → x.one = true ∧ w.cell? ⟨b, off + i, none⟩ = some (vals i) ∧ RT w M x (vals i)) {o : Nat} {K : T → Prop} (h : partT y cells o K) :
    ∃ x val, (loadVar t ⟨b, off + o, none⟩).run P w = .ok val w ∧ RT w M x val ∧ K x := by
  unfold partT at h
  split at h
  · rename_i ha
    rw [ck_iff] at h
    obtain ⟨hb, k⟩ := h
    have hb := Nat.le_of_ble_eq_true hb
    have cell : ∀ j, j < y.size → w.cell? ⟨b, off + o + j, none⟩ = some (vals (o + j)) := fun j hj => by
      have := (hr (o + j) _ (List.getElem?_eq_getElem (by omega))).2.1
      rw [Nat.add_assoc]; exact this
    refine ⟨_, _, run_loadVar_agg hT hy ha (vals := (List.range y.size).map fun j => vals (o + j)) (by simp) (fun j v hj => ?_), .agg _ _ (by simp; omega) (fun i x hi => (hr _ x (getElem?_take_drop hi).2).1) (fun i x v hi hv => ?_), k⟩
    · simp only [List.getElem?_map, Option.map_eq_some_iff] at hj
      obtain ⟨k, hk, rfl⟩ := hj
      have := lt_of_getElem? hk
      rw [List.length_range] at this
      rw [List.getElem?_range this] at hk
      cases hk
      exact cell _ this
    · obtain ⟨hlt, hi⟩ := getElem?_take_drop hi
      have : v = vals (o + i) := by simp [hlt] at hv; exact hv.symm
      subst this
      exact (hr _ x hi).2.2
  · rename_i ha
    rw [opt_iff] at h
    obtain ⟨x, hx, k⟩ := h
    exact ⟨x, _, run_loadVar_one hT hy ha (hr o x hx).2.1, (hr o x hx).2.2, k⟩

theorem cell_row {cb j : Nat} {arr : Array Value} {e : TypeId} {fz : Nat × Nat} (h : w.heap[cb]? = some (.cells arr e fz)) : w.cell? ⟨cb, j, none⟩ = arr[j]? := by
  simp [World.cell?, h]

theorem xload_ok {tab : Tab} (hT : TabOK P tab) {t : TypeId} {c H B a v} {K : AV → Prop} (hs : HS w c H B) (h : xload tab t H a K) (ha : RA w c H a v) :
    ∃ x val, (Instr.loadAt t v).run P w = .ok val w ∧ RA w c H x val ∧ K x := by
  unfold xload at h
  rw [opt_iff] at h
  obtain ⟨y, hy, h⟩ := h
  split at h
  · rename_i cells
    cases ha with | t _ _ ha => cases ha with | iptr _ b off vals hM hc hr =>
    obtain ⟨x, val, r, rt, k⟩ := loadT_ok (w := w) hT hy (M := c.M H) (b := b) (off := off) vals (fun i x hi => ⟨(hc i x hi).2, (hc i x hi).1, hr i x hi⟩) h
    exact ⟨.t x, val, by simpa [Instr.loadAt, Instr.sureAddr] using r, .t _ _ rt, k⟩
  · rename_i b g i o
    cases ha with | ptr _ _ _ _ _ blk hb hm =>
    rw [hb] at h
    cases blk with
    | dead => exact h.elim
    | iter => exact h.elim
    | box cells =>
      obtain ⟨cb, hg, rfl⟩ := hm
      obtain ⟨arr, e, h1, h2, h3⟩ := hs.box b cb cells hb hg
      obtain ⟨x, val, r, rt, k⟩ := loadA_ok (w := w) hT hy (c := c) (H := H) (b := cb) (off := 0) (fun i => arr.getD i undef) (fun i x hi => by
        obtain ⟨v, hv⟩ := arr_get (a := arr) (i := i) (by have := lt_of_getElem? hi; omega)
        have := h3 i x v hi hv
        refine ⟨this.1, by rw [Nat.zero_add, cell_row h1, hv]; simp [Array.getD_eq_getD_getElem?, hv], by simpa [Array.getD_eq_getD_getElem?, hv] using this.2.1⟩) h
      rw [Nat.zero_add] at r
      exact ⟨x, val, by simpa [Instr.loadAt, Instr.sureAddr] using r, rt, k⟩
    | arr e s z gen l =>
     cases l with
     | vs l =>
      simp only at h
      rw [ck_iff] at h
      obtain ⟨hgg, h⟩ := h
      rw [opt_iff] at h
      obtain ⟨x0, hx0, h⟩ := h
      obtain ⟨cb, hg, rfl⟩ := hm.2 (Nat.eq_of_beq_eq_true hgg)
      obtain ⟨arr, cap, h1, h2, h3, h4, h5⟩ := hs.arr b cb e s z gen _ hb hg
      obtain ⟨h6, h7⟩ := h5 i x0 hx0
      obtain ⟨x, val, r, rt, k⟩ := loadA_ok (w := w) hT hy (c := c) (H := H) (b := cb) (off := i * s) (fun j => arr.getD (i * s + j) undef) (fun j y hj => by
        obtain ⟨v, hv, b2, b3, b4⟩ := h7 j y hj
        exact ⟨b2, by rw [cell_row h1, hv]; simp [Array.getD_eq_getD_getElem?, hv], by simpa [Array.getD_eq_getD_getElem?, hv] using b3⟩) h
      exact ⟨x, val, by simpa [Instr.loadAt, Instr.sureAddr] using r, rt, k⟩
     | ts l =>
      simp only at h
      rw [ck_iff] at h
      obtain ⟨hgg, h⟩ := h
      rw [opt_iff] at h
      obtain ⟨x0, hx0, h⟩ := h
      obtain ⟨cb, hg, rfl⟩ := hm.2 (Nat.eq_of_beq_eq_true hgg)
      obtain ⟨arr, cap, h1, h2, h3, h4, h5⟩ := hs.arr b cb e s z gen _ hb hg
      obtain ⟨h6, h7⟩ := Rowed.ts.1 h5 i x0 hx0
      obtain ⟨x, val, r, rt, k⟩ := loadT_ok (w := w) hT hy (M := c.M H) (b := cb) (off := i * s) (fun j => arr.getD (i * s + j) undef) (fun j y hj => by
        obtain ⟨v, hv, b2, b3, b4⟩ := h7 j y hj
        exact ⟨b2, by rw [cell_row h1, hv]; simp [Array.getD_eq_getD_getElem?, hv], by simpa [Array.getD_eq_getD_getElem?, hv] using b3⟩) h
      exact ⟨.t x, val, by simpa [Instr.loadAt, Instr.sureAddr] using r, .t _ _ rt, k⟩
  · exact h.elim

theorem fieldOf_eq {y : TyI} {k : Nat} {f : Field} (h : fieldOf y k = some f) : ∃ fs, y.d = .struct fs ∧ fs[k]? = some f := by
  unfold fieldOf at h
  split at h
  · exact ⟨_, ‹_›, h⟩
  · cases h

theorem xfieldAddr_ok {tab : Tab} (hT : TabOK P tab) {t : TypeId} {c H a v k} {K : AV → Prop} (h : xfieldAddr tab t H a k K) (ha : RA w c H a v) :
    ∃ x val, (Instr.fieldAt t v k).run P w = .ok val w ∧ RA w c H x val ∧ K x := by
  unfold xfieldAddr at h
  rw [opt_iff] at h
  obtain ⟨y, hy, h⟩ := h
  rw [opt_iff] at h
  obtain ⟨f, hf, h⟩ := h
  rw [opt_iff] at h
  obtain ⟨z, hz, h⟩ := h
  rw [ck_iff] at h
  obtain ⟨hsz, h⟩ := h
  have hsz := Nat.le_of_ble_eq_true hsz
  obtain ⟨fs, hfs, hfk⟩ := fieldOf_eq hf
  have hd := (hT t y hy).d
  rw [hfs] at hd
  have run : ∀ b o, (Instr.fieldAt t (.pointer (some ⟨b, o, none⟩)) k).run P w = .ok (.pointer (some ⟨b, o + f.offset, none⟩)) w := by
    intro b o
    have hne : ¬ z.size = 0 := by omega
    simp [Instr.fieldAt, run_underlying hd, hfk, Instr.sureAddr, fieldPlace, run_sizeOf hT hz, hne, Addr.add_lit]
  split at h
  · rename_i cells
    cases ha with | t _ _ ha => cases ha with | iptr _ b off vals hM hc hr =>
    refine ⟨_, _, run b off, .t _ _ (.iptr _ b (off + f.offset) (fun i => vals (f.offset + i)) (fun hne => hM (fun e => hne (by simp [e]))) (fun i x hi => ?_) (fun i x hi => ?_)), h⟩
    · rw [List.getElem?_drop] at hi; rw [Nat.add_assoc]; exact hc _ x hi
    · rw [List.getElem?_drop] at hi; exact hr _ x hi
  · rename_i b g i o
    cases ha with | ptr _ _ _ _ _ blk hb hm =>
    rw [hb] at h
    cases blk with
    | dead => exact h.elim
    | iter => exact h.elim
    | box cells =>
      obtain ⟨cb, hg, rfl⟩ := hm
      exact ⟨_, _, run cb o, .ptr _ _ _ _ _ _ hb ⟨cb, hg, rfl⟩, h⟩
    | arr e s z gen l =>
      simp only at h
      rw [ck_iff] at h
      obtain ⟨hgg, h⟩ := h
      obtain ⟨cb, hg, rfl⟩ := hm.2 (Nat.eq_of_beq_eq_true hgg)
      exact ⟨_, _, run cb _, .ptr _ _ _ _ _ _ hb ⟨hm.1, fun _ => ⟨cb, hg, by rw [Nat.add_assoc]⟩⟩, h⟩
  · exact h.elim

theorem xfield_ok {tab : Tab} (hT : TabOK P tab) {t : TypeId} {c H a v k} {K : AV → Prop} (h : xfield tab t a k K) (ha : RA w c H a v) :
    ∃ x val, (Instr.field t v k).run P w = .ok val w ∧ RA w c H x val ∧ K x := by
  unfold xfield at h
  rw [opt_iff] at h
  obtain ⟨y, hy, h⟩ := h
  rw [opt_iff] at h
  obtain ⟨f, hf, h⟩ := h
  rw [opt_iff] at h
  obtain ⟨z, hz, h⟩ := h
  obtain ⟨fs, hfs, hfk⟩ := fieldOf_eq hf
  have hd := (hT t y hy).d
  rw [hfs] at hd
  split at h
  · cases ha with | t _ _ ha => cases ha with | agg _ vs hl h1 hr =>
    obtain ⟨x, val, r, rt, k⟩ := partT_ok (w := w) hT hz hl h1 hr h
    exact ⟨.t x, val, by simpa [Instr.field, run_underlying hd, hfk, asAgg] using r, .t _ _ rt, k⟩
  · cases ha with | agg _ vs hl h1 hr =>
    obtain ⟨x, val, r, rt, k⟩ := partA_ok (w := w) hT hz hl h1 hr h
    exact ⟨x, val, by simpa [Instr.field, run_underlying hd, hfk, asAgg] using r, rt, k⟩
  · exact h.elim

theorem inB_spec {i : Int} {n : Nat} (h : inB i n = true) : 0 ≤ i ∧ i < n ∧ i.toNat < n ∧ (i.toNat : Int) = i := by
  simp [inB] at h; omega

theorem xindexAddr_ok {tab : Tab} (hT : TabOK P tab) {t : TypeId} {c H a v ix iv} {K : AV → Prop} (h : xindexAddr tab t H a ix K) (ha : RA w c H a v) (hi : RA w c H ix iv) :
    ∃ x val, (Instr.indexAt t v iv).run P w = .ok val w ∧ RA w c H x val ∧ K x := by
  unfold xindexAddr at h
  rw [opt_iff] at h
  obtain ⟨y, hy, h⟩ := h
  have hd := (hT t y hy).d
  split at h
  · rename_i k i
    obtain rfl := hi.int
    split at h
    · rename_i e s l hyd
      rw [hyd] at hd
      rw [opt_iff] at h
      obtain ⟨z, hz, h⟩ := h
      rw [ck_iff] at h
      obtain ⟨hb, h⟩ := h
      simp at hb
      rw [opt_iff] at h
      obtain ⟨x, hx, h⟩ := h
      cases ha with | t _ _ ha => cases ha with | vec _ _ b off cap sp vals hM hcap hsp hss hc hr =>
      obtain rfl := hsp (fun e => by subst e; simp at hx)
      have hlt := lt_of_getElem? hx
      have hin : 0 ≤ i ∧ i < (l.length : Int) := by omega
      have hsz := run_sizeOf hT hz w
      refine ⟨_, .pointer (some ⟨b, off + i.toNat * z.size, none⟩), ?_, .t _ _ (.iptr x.cells b _ (fun j => vals i.toNat j) (fun hne => ?_) (fun j y hj => ?_) (fun j y hj => ?_)), h⟩
      · simp [Instr.indexAt, asIntOf, run_underlying hd, hin, hsz, Addr.add_lit]
      · refine hM (fun e => by simp [e] at hlt) ?_
        have := hss _ x hx
        have : x.cells.length ≠ 0 := fun e => hne (List.eq_nil_of_length_eq_zero e)
        omega
      · have := hc _ x j y hx hj
        rw [← hb.1]; exact this
      · exact hr _ x j y hx hj
    · rename_i e s l hyd
      rw [hyd] at hd
      rw [opt_iff] at h
      obtain ⟨z, hz, h⟩ := h
      rw [ck_iff] at h
      obtain ⟨hb, h⟩ := h
      simp at hb
      rw [opt_iff] at h
      obtain ⟨x, hx, h⟩ := h
      cases ha with | t _ _ ha =>
      obtain ⟨ha⟩ : Nonempty (RT w (c.M H) (.vec s l) v) := by
        cases ha with
        | vecd0 => simp at hx
        | vecd _ _ _ ha => exact ⟨ha⟩
      cases ha with | vec _ _ b off cap sp vals hM hcap hsp hss hc hr =>
      obtain rfl := hsp (fun e => by subst e; simp at hx)
      have hlt := lt_of_getElem? hx
      have hin : 0 ≤ i ∧ i < (l.length : Int) := by omega
      have hsz := run_sizeOf hT hz w
      refine ⟨_, .pointer (some ⟨b, off + i.toNat * z.size, none⟩), ?_, .t _ _ (.iptr x.cells b _ (fun j => vals i.toNat j) (fun hne => ?_) (fun j y hj => ?_) (fun j y hj => ?_)), h⟩
      · simp [Instr.indexAt, asIntOf, run_underlying hd, hin, hsz, Addr.add_lit]
      · refine hM (fun e => by simp [e] at hlt) ?_
        have := hss _ x hx
        have : x.cells.length ≠ 0 := fun e => hne (List.eq_nil_of_length_eq_zero e)
        omega
      · have := hc _ x j y hx hj
        rw [← hb.1]; exact this
      · exact hr _ x j y hx hj
    · rename_i e b g j len hyd
      rw [hyd] at hd
      rw [opt_iff] at h
      obtain ⟨z, hz, h⟩ := h
      cases ha with | sl _ _ _ _ _ blk hb hm =>
      rw [hb] at h
      cases blk with
      | dead => exact h.elim
      | box => exact h.elim
      | iter => exact h.elim
      | arr e' s z' gen l =>
        simp only at h
        rw [ck_iff] at h
        obtain ⟨hc, h⟩ := h
        simp only [Bool.and_eq_true] at hc
        obtain ⟨⟨hg1, hs1⟩, hin⟩ := hc
        have hg1 := Nat.eq_of_beq_eq_true hg1
        have hs1 := Nat.eq_of_beq_eq_true hs1
        obtain ⟨i0, i1, i2, i3⟩ := inB_spec hin
        obtain ⟨hlen, hm⟩ := hm.2 hg1
        rcases hm with ⟨_, l0, _⟩ | ⟨_, l0, _⟩ | ⟨_, cb, cap, off, hg, rfl, hsz', hcap, hmx, hoff, hoff0⟩
        · omega
        · omega
        · have hoff' : off = j * s := hoff.resolve_left (by omega)
          subst hoff'
          have hsz := run_sizeOf hT hz w
          have hin' : 0 ≤ i ∧ i < (len : Int) := ⟨i0, i1⟩
          refine ⟨_, .pointer (some ⟨cb, j * s + i.toNat * z.size, none⟩), ?_, .ptr _ _ _ _ _ _ hb ⟨by omega, fun _ => ⟨cb, hg, ?_⟩⟩, h⟩
          · simp [Instr.indexAt, asIntOf, run_underlying hd, hin', hsz, Addr.add_lit]
          · rw [← hs1, Nat.add_mul, Nat.add_zero]
    · rename_i n e b g j o hyd
      rw [hyd] at hd
      rw [opt_iff] at h
      obtain ⟨z, hz, h⟩ := h
      rw [ck_iff] at h
      obtain ⟨hin, h⟩ := h
      obtain ⟨i0, i1, i2, i3⟩ := inB_spec hin
      have hsz := run_sizeOf hT hz w
      have run : ∀ cb q, (Instr.indexAt t (.pointer (some ⟨cb, q, none⟩)) (.int k i)).run P w = .ok (.pointer (some ⟨cb, q + i.toNat * z.size, none⟩)) w := by
        intro cb q
        simp [Instr.indexAt, asIntOf, run_underlying hd, Instr.sureAddr, i0, i1, hsz, Addr.add_lit]
      cases ha with | ptr _ _ _ _ _ blk hb hm =>
      rw [hb] at h
      cases blk with
      | dead => exact h.elim
      | iter => exact h.elim
      | box cells =>
        obtain ⟨cb, hg, rfl⟩ := hm
        exact ⟨_, _, run cb o, .ptr _ _ _ _ _ _ hb ⟨cb, hg, rfl⟩, h⟩
      | arr e' s z' gen l =>
        simp only at h
        rw [ck_iff] at h
        obtain ⟨hgg, h⟩ := h
        obtain ⟨cb, hg, rfl⟩ := hm.2 (Nat.eq_of_beq_eq_true hgg)
        exact ⟨_, _, run cb _, .ptr _ _ _ _ _ _ hb ⟨hm.1, fun _ => ⟨cb, hg, by rw [Nat.add_assoc]⟩⟩, h⟩
    · rename_i n e cells hyd
      rw [hyd] at hd
      rw [opt_iff] at h
      obtain ⟨z, hz, h⟩ := h
      rw [ck_iff] at h
      obtain ⟨hin, h⟩ := h
      obtain ⟨i0, i1, i2, i3⟩ := inB_spec hin
      have hsz := run_sizeOf hT hz w
      cases ha with | t _ _ ha => cases ha with | iptr _ b off vals hM hc hr =>
      refine ⟨_, .pointer (some ⟨b, off + i.toNat * z.size, none⟩), ?_, .t _ _ (.iptr _ b _ (fun j => vals (i.toNat * z.size + j)) (fun hne => hM (fun e => hne (by simp [e]))) (fun j x hj => ?_) (fun j x hj => ?_)), h⟩
      · simp [Instr.indexAt, asIntOf, run_underlying hd, Instr.sureAddr, i0, i1, hsz, Addr.add_lit]
      · rw [List.getElem?_drop] at hj; rw [Nat.add_assoc]; exact hc _ x hj
      · rw [List.getElem?_drop] at hj; exact hr _ x hj
    · exact h.elim
  · exact h.elim

theorem xindex_ok {tab : Tab} (hT : TabOK P tab) {t : TypeId} {c H a v ix iv} {K : AV → Prop} (h : xindex tab t a ix K) (ha : RA w c H a v) (hi : RA w c H ix iv) :
    ∃ x val, (Instr.index t v iv).run P w = .ok val w ∧ RA w c H x val ∧ K x := by
  unfold xindex at h
  rw [opt_iff] at h
  obtain ⟨y, hy, h⟩ := h
  have hd := (hT t y hy).d
  split at h
  · rename_i k i
    obtain rfl := hi.int
    split at h
    · rename_i s hyd
      rw [hyd] at hd
      rw [ck_iff] at h
      obtain ⟨hb, h⟩ := h
      simp at hb
      rw [opt_iff] at h
      obtain ⟨x, hx, h⟩ := h
      obtain ⟨bs, rfl, rfl⟩ := ha.str
      have hlt := lt_of_getElem? hx
      have hlt' : i.toNat < bs.size := hlt
      have hget : bs[i.toNat]? = some x := by
        rw [getElem?_pos bs i.toNat hlt']
        have : bs.data.toList[i.toNat]? = some bs[i.toNat] := by
          show bs.data.toList[i.toNat]? = some bs.data[i.toNat]
          simp
        rw [this] at hx
        exact hx
      exact ⟨_, .int .u8 x.toNat, by simp [Instr.index, asIntOf, run_underlying hd, hb, hget], .t _ _ (.int _ _), h⟩
    · rename_i n e cs hyd
      rw [hyd] at hd
      rw [opt_iff] at h
      obtain ⟨z, hz, h⟩ := h
      rw [ck_iff] at h
      obtain ⟨hin, h⟩ := h
      obtain ⟨i0, i1, i2, i3⟩ := inB_spec hin
      have hsz := run_sizeOf hT hz w
      cases ha with | t _ _ ha => cases ha with | agg _ vs hl h1 hr =>
      obtain ⟨x, val, r, rt, k⟩ := partT_ok (w := w) hT hz hl h1 hr h
      exact ⟨.t x, val, by simpa [Instr.index, asIntOf, run_underlying hd, i0, i1, hsz] using r, .t _ _ rt, k⟩
    · rename_i n e cs hyd
      rw [hyd] at hd
      rw [opt_iff] at h
      obtain ⟨z, hz, h⟩ := h
      rw [ck_iff] at h
      obtain ⟨hin, h⟩ := h
      obtain ⟨i0, i1, i2, i3⟩ := inB_spec hin
      have hsz := run_sizeOf hT hz w
      cases ha with | agg _ vs hl h1 hr =>
      obtain ⟨x, val, r, rt, k⟩ := partA_ok (w := w) hT hz hl h1 hr h
      exact ⟨x, val, by simpa [Instr.index, asIntOf, run_underlying hd, i0, i1, hsz] using r, rt, k⟩
    · exact h.elim
  · exact h.elim

end
end Go.Proofs.YthpkehhghcpolaaDoor

namespace Go.Proofs.YthpkehhghcpolaaDoor
open Go.RowKit
set_option linter.unusedVariables false
set_option linter.unusedSimpArgs false

section
variable {P : Program} {w : World}

theorem xbound_some {v : AV} {d most : Nat} {K : Nat → Prop} (h : xbound (some v) d most K) {c H u} (hv : RA w c H v u) : ∃ k n, u = .int k n ∧ 0 ≤ n ∧ n ≤ (most : Int) ∧ K n.toNat := by
  unfold xbound at h
  split at h
  · rename_i h0; cases h0
  · rename_i k n h0
    cases h0
    rw [ck_iff] at h
    obtain ⟨hc, h⟩ := h
    simp at hc
    exact ⟨_, _, hv.int, hc.1, hc.2, h⟩
  · exact h.elim

/-- An operand that may be missing. -/
inductive RO (w : World) (c : Cx) (H : AH) : Option AV → Option Value → Prop
  | no : RO w c H none none
  | yes (a v) (h : RA w c H a v) : RO w c H (some a) (some v)

/-- The bounds of a slice expression with two of them. -/
theorem xbounds_ok {lo hi : Option AV} {lv hv : Option Value} {c H} {n most : Nat} {K : Nat → Nat → Prop} (isS : Bool)
    (hlo : RO w c H lo lv) (hhi : RO w c H hi hv)
    (hn : n ≤ most) (cap : Nat) (hmost : most ≤ cap) (h : xbound hi n most fun h => xbound lo 0 h fun l => K l h) :
    ∃ l h, l ≤ h ∧ h ≤ most ∧ (Instr.sliceBounds isS n cap lv hv none).run P w = .ok (l, h, cap) w ∧ K l h := by
  cases hhi with
  | no =>
    replace h : xbound lo 0 n fun l => K l n := h
    cases hlo with
    | no => exact ⟨0, n, Nat.zero_le _, hn, by simp [Instr.sliceBounds], h⟩
    | yes a u hu =>
      obtain ⟨k, m, rfl, h0, h1, h2⟩ := xbound_some h hu
      exact ⟨m.toNat, n, by omega, hn, by simp [Instr.sliceBounds, run_sliceBound w k m n _ h0 (by omega)], h2⟩
  | yes b v hv =>
    obtain ⟨k', m', rfl, h0', h1', h2'⟩ := xbound_some h hv
    cases hlo with
    | no => exact ⟨0, m'.toNat, Nat.zero_le _, by omega, by simp [Instr.sliceBounds, run_sliceBound w k' m' cap _ h0' (by omega)], h2'⟩
    | yes a u hu =>
      obtain ⟨k, m, rfl, h0, h1, h2⟩ := xbound_some h2' hu
      exact ⟨m.toNat, m'.toNat, by omega, by omega, by simp [Instr.sliceBounds, run_sliceBound w k' m' cap _ h0' (by omega), run_sliceBound w k m m'.toNat _ h0 (by omega)], h2⟩

theorem room_cases (gen s i n len : Nat) : room gen s i n len = n ∨ (gen % 2 = 1 ∧ 1 ≤ s ∧ room gen s i n len = len - i) := by
  unfold room
  split
  · rename_i h
    simp only [Bool.and_eq_true] at h
    exact .inr ⟨Nat.eq_of_beq_eq_true h.1, Nat.le_of_ble_eq_true h.2, rfl⟩
  · exact .inl rfl

theorem RO.int0 {c H k v} (h : RO w c H (some (.t (.int k 0))) v) : v = some (.int k 0) := by cases h with | yes _ _ h => rw [h.int]

theorem xslice_ok {tab : Tab} (hT : TabOK P tab) {t : TypeId} {c H B a v} {lo hi mx : Option AV} {lv hv mv : Option Value} {K : AV → Prop} (hs : HS w c H B) (h : xslice tab t H a lo hi mx K) (ha : RA w c H a v)
    (hlo : RO w c H lo lv) (hhi : RO w c H hi hv) (hmx : RO w c H mx mv) :
    ∃ x val, (Instr.sliceAt t v lv hv mv).run P w = .ok val w ∧ RA w c H x val ∧ K x := by
  unfold xslice at h
  rw [opt_iff] at h
  obtain ⟨y, hy, h⟩ := h
  have hd := (hT t y hy).d
  split at h
  · rename_i m
    split at h
    · rename_i e k1 k2 k3 he
      rw [he] at hd
      rw [opt_iff] at h
      obtain ⟨z, hz, h⟩ := h
      obtain rfl := hlo.int0
      obtain rfl := hhi.int0
      obtain rfl := hmx.int0
      have hz' := run_sizeOf hT hz w
      have run : ∀ a0 n cap, (Instr.sliceAt t (.slice a0 n cap) (some (.int k1 0)) (some (.int k2 0)) (some (.int k3 0))).run P w = .ok (.slice a0 0 0) w := by
        intro a0 n cap
        simp [Instr.sliceAt, Instr.slice, run_underlying hd, Instr.sliceBounds, Instr.sliceBound, asIntOf, hz']
      split at h
      · cases ha with | t _ _ ha => cases ha; exact ⟨_, _, run _ _ _, .t _ _ .nils, h⟩
      · cases ha with | t _ _ ha => cases ha; exact ⟨_, _, run _ _ _, .emp _, h⟩
      · cases ha; exact ⟨_, _, run _ _ _, .emp _, h⟩
      · rename_i b g i n
        cases ha with | sl _ _ _ _ _ blk hb hm =>
        rw [hb] at h
        cases blk with
        | dead => exact h.elim
        | box => exact h.elim
        | iter => exact h.elim
        | arr e' s z' gen l0 =>
          simp only at h
          rw [ck_iff] at h
          obtain ⟨hc, h⟩ := h
          obtain ⟨hlen, hm2⟩ := hm.2 (Nat.eq_of_beq_eq_true hc)
          rw [br_iff] at h
          rcases hm2 with ⟨z1, l1, rfl⟩ | ⟨z1, l1, ad, rfl⟩ | ⟨hne, cb, cap, off, hg, rfl, _⟩
          · rcases h with ⟨_, h⟩ | ⟨h0, _⟩
            · exact ⟨_, _, run _ _ _, .t _ _ .nils, h⟩
            · simp [z1, l1] at h0
          · rcases h with ⟨h0, _⟩ | ⟨_, h⟩
            · simp [z1] at h0
            · exact ⟨_, _, run _ _ _, .emp _, h⟩
          · rcases h with ⟨h0, _⟩ | ⟨_, h⟩
            · simp at h0; exact (hne h0).elim
            · exact ⟨_, _, run _ _ _, .emp _, h⟩
      · exact h.elim
    · exact h.elim
  · cases hmx
    split at h
    · rename_i s he
      rw [he] at hd
      obtain ⟨bs, rfl, rfl⟩ := ha.str
      obtain ⟨l, h', hl, hh, run, k⟩ := xbounds_ok (P := P) false hlo hhi (Nat.le_refl _) bs.size (Nat.le_of_eq rfl) h
      refine ⟨_, .string (bs.extract l h'), by simp [Instr.sliceAt, Instr.slice, run_underlying hd, run], .t _ _ ?_, k⟩
      have e : (bs.data.toList.drop l).take (h' - l) = (bs.extract l h').data.toList := by
        rw [ByteArray.data_extract]; simp [List.extract, Array.toList_extract]
      rw [e]; exact .str _
    · rename_i e s l0 he
      rw [he] at hd
      rw [opt_iff] at h
      obtain ⟨z, hz, h⟩ := h
      rw [ck_iff] at h
      obtain ⟨hsz, h⟩ := h
      have hsz := Nat.eq_of_beq_eq_true hsz
      cases ha with | t _ _ ha => cases ha with | vec _ _ b off cap sp vals hM hcap hsp hss hc hr =>
      obtain ⟨l, h', hl, hh, run, k⟩ := xbounds_ok (P := P) true hlo hhi (Nat.le_refl _) cap hcap h
      have hz' := run_sizeOf hT hz w
      by_cases hl0 : l0 = []
      · subst hl0
        have e1 : h' = 0 := by simpa using hh
        have e2 : l = 0 := by omega
        subst e1 e2
        have hrun : (Instr.sliceAt t (.slice (some ⟨b, off, sp⟩) ([] : List T).length cap) lv hv none).run P w = .ok (.slice (some ⟨b, off, sp⟩) ([] : List T).length cap) w := by
          have run0 : (Instr.sliceBounds true 0 cap lv hv none).run P w = .ok (0, 0, cap) w := run
          simp [Instr.sliceAt, Instr.slice, run_underlying hd, run0, hz', Addr.add]
        exact ⟨_, _, hrun, .t _ _ (.vec s _ b off cap sp vals hM hcap hsp hss hc hr), k⟩
      obtain rfl := hsp hl0
      have hrun : (Instr.sliceAt t (.slice (some ⟨b, off, none⟩) l0.length cap) lv hv none).run P w = .ok (.slice (if cap = l then some ⟨b, off, none⟩ else some ⟨b, off + l * z.size, none⟩) (h' - l) (cap - l)) w := by
        simp [Instr.sliceAt, Instr.slice, run_underlying hd, run, hz', Addr.add_lit]
      have hlen : ((l0.drop l).take (h' - l)).length = h' - l := by simp; omega
      by_cases hcl : cap = l
      · have : h' - l = 0 := by omega
        refine ⟨_, _, hrun, .t _ _ ?_, k⟩
        have e0 : (l0.drop l).take (h' - l) = [] := List.eq_nil_of_length_eq_zero (by omega)
        rw [e0, if_pos hcl, this]
        exact .vec s [] b off (cap - l) none (fun _ _ => undef) (by simp) (by simp) (by simp) (by simp) (by simp) (by simp)
      · refine ⟨_, _, hrun, .t _ _ ?_, k⟩
        rw [if_neg hcl]
        have := RT.vec (w := w) (M := c.M H) s ((l0.drop l).take (h' - l)) b (off + l * z.size) (cap - l) none (fun i j => vals (l + i) j) (fun hne => hM (fun e => hne (by simp [e]))) (by omega) (fun _ => rfl)
          (fun i e hi => hss _ e (getElem?_take_drop hi).2)
          (fun i e j x hi hj => by
            have := hc _ e j x (getElem?_take_drop hi).2 hj
            rw [← hsz, show off + l * s + i * s + j = off + (l + i) * s + j by rw [Nat.add_mul]; omega]
            exact this)
          (fun i e j x hi hj => hr _ e j x (getElem?_take_drop hi).2 hj)
        rw [hlen] at this
        exact this
    · rename_i e he
      rw [he] at hd
      rw [opt_iff] at h
      obtain ⟨z, hz, h⟩ := h
      cases ha with | t _ _ ha =>
      cases ha
      obtain ⟨l, h', hl, hh, run, k⟩ := xbounds_ok (P := P) (K := fun _ _ => K (.t .nils)) true hlo hhi (Nat.le_refl _) 0 (Nat.le_refl _) h
      have l0 : l = 0 := by omega
      have h0 : h' = 0 := by omega
      subst l0 h0
      exact ⟨_, _, by simp [Instr.sliceAt, Instr.slice, run_underlying hd, run, run_sizeOf hT hz w], .t _ _ .nils, k⟩
    · rename_i e s l0 he
      rw [he] at hd
      rw [opt_iff] at h
      obtain ⟨z, hz, h⟩ := h
      rw [ck_iff] at h
      obtain ⟨hsz, h⟩ := h
      have hsz := Nat.eq_of_beq_eq_true hsz
      cases ha with | t _ _ ha => cases ha with
      | vecd0 =>
        obtain ⟨l, h', hl, hh, run, k⟩ := xbounds_ok (P := P) true hlo hhi (Nat.le_refl _) 0 (Nat.le_refl _) h
        have hh0 : h' ≤ 0 := hh
        have l0 : l = 0 := by omega
        have h0 : h' = 0 := by omega
        subst l0 h0
        have run : (Instr.sliceBounds true 0 0 lv hv none).run P w = .ok (0, 0, 0) w := run
        exact ⟨_, _, by simp [Instr.sliceAt, Instr.slice, run_underlying hd, run, run_sizeOf hT hz w], .t _ _ (.vecd0 s), k⟩
      | vecd _ _ _ ha =>
      cases ha with | vec _ _ b off cap sp vals hM hcap hsp hss hc hr =>
      obtain ⟨l, h', hl, hh, run, k⟩ := xbounds_ok (P := P) true hlo hhi (Nat.le_refl _) cap hcap h
      have hz' := run_sizeOf hT hz w
      by_cases hl0 : l0 = []
      · subst hl0
        have e1 : h' = 0 := by simpa using hh
        have e2 : l = 0 := by omega
        subst e1 e2
        have hrun : (Instr.sliceAt t (.slice (some ⟨b, off, sp⟩) ([] : List T).length cap) lv hv none).run P w = .ok (.slice (some ⟨b, off, sp⟩) ([] : List T).length cap) w := by
          have run0 : (Instr.sliceBounds true 0 cap lv hv none).run P w = .ok (0, 0, cap) w := run
          simp [Instr.sliceAt, Instr.slice, run_underlying hd, run0, hz', Addr.add]
        exact ⟨_, _, hrun, .t _ _ (.vecd _ _ _ (.vec s _ b off cap sp vals hM hcap hsp hss hc hr)), k⟩
      obtain rfl := hsp hl0
      have hrun : (Instr.sliceAt t (.slice (some ⟨b, off, none⟩) l0.length cap) lv hv none).run P w = .ok (.slice (if cap = l then some ⟨b, off, none⟩ else some ⟨b, off + l * z.size, none⟩) (h' - l) (cap - l)) w := by
        simp [Instr.sliceAt, Instr.slice, run_underlying hd, run, hz', Addr.add_lit]
      have hlen : ((l0.drop l).take (h' - l)).length = h' - l := by simp; omega
      by_cases hcl : cap = l
      · have : h' - l = 0 := by omega
        refine ⟨_, _, hrun, .t _ _ ?_, k⟩
        have e0 : (l0.drop l).take (h' - l) = [] := List.eq_nil_of_length_eq_zero (by omega)
        rw [e0, if_pos hcl, this]
        refine .vecd _ _ _ ?_
        exact .vec s [] b off (cap - l) none (fun _ _ => undef) (by simp) (by simp) (by simp) (by simp) (by simp) (by simp)
      · refine ⟨_, _, hrun, .t _ _ ?_, k⟩
        rw [if_neg hcl]
        have := RT.vec (w := w) (M := c.M H) s ((l0.drop l).take (h' - l)) b (off + l * z.size) (cap - l) none (fun i j => vals (l + i) j) (fun hne => hM (fun e => hne (by simp [e]))) (by omega) (fun _ => rfl)
          (fun i e hi => hss _ e (getElem?_take_drop hi).2)
          (fun i e j x hi hj => by
            have := hc _ e j x (getElem?_take_drop hi).2 hj
            rw [← hsz, show off + l * s + i * s + j = off + (l + i) * s + j by rw [Nat.add_mul]; omega]
            exact this)
          (fun i e j x hi hj => hr _ e j x (getElem?_take_drop hi).2 hj)
        rw [hlen] at this
        exact .vecd _ _ _ this
    · rename_i e b g i n he
      rw [he] at hd
      rw [opt_iff] at h
      obtain ⟨z, hz, h⟩ := h
      cases ha with | sl _ _ _ _ _ blk hb hm =>
      rw [hb] at h
      cases blk with
      | dead => exact h.elim
      | box => exact h.elim
      | iter => exact h.elim
      | arr e' s z' gen l0 =>
        simp only at h
        rw [ck_iff] at h
        obtain ⟨hc, h⟩ := h
        simp only [Bool.and_eq_true] at hc
        have hg1 := Nat.eq_of_beq_eq_true hc.1
        have hs1 := Nat.eq_of_beq_eq_true hc.2
        have hz' := run_sizeOf hT hz w
        obtain ⟨hlen, hm2⟩ := hm.2 hg1
        rcases hm2 with ⟨z1, l1, rfl⟩ | ⟨z1, l1, ad, rfl⟩ | ⟨hne, cb, cap, off, hg, rfl, hsz', hcap, hmx, hoff, hoff0⟩
        · have hn0 : n = 0 := by rw [l1] at hlen; simp at hlen; omega
          have hi0 : i = 0 := by rw [l1] at hlen; simp at hlen; omega
          subst hn0 hi0
          have hr0 : room gen s 0 0 l0.length = 0 := by rcases room_cases gen s 0 0 l0.length with h | ⟨_, _, h⟩ <;> omega
          rw [hr0] at h
          obtain ⟨l, h', hl, hh, run, k⟩ := xbounds_ok (P := P) true hlo hhi (Nat.le_refl _) 0 (Nat.le_refl _) h
          have l0' : l = 0 := by omega
          have h0 : h' = 0 := by omega
          subst l0' h0
          exact ⟨_, .slice none 0 0, by simp [Instr.sliceAt, Instr.slice, run_underlying hd, run, hz'], .sl _ _ _ _ _ _ hb ⟨hm.1, fun _ => ⟨by simp [l1], .inl ⟨z1, l1, rfl⟩⟩⟩, k⟩
        · have hn0 : n = 0 := by rw [l1] at hlen; simp at hlen; omega
          have hi0 : i = 0 := by rw [l1] at hlen; simp at hlen; omega
          subst hn0 hi0
          have hr0 : room gen s 0 0 l0.length = 0 := by rcases room_cases gen s 0 0 l0.length with h | ⟨_, _, h⟩ <;> omega
          rw [hr0] at h
          obtain ⟨l, h', hl, hh, run, k⟩ := xbounds_ok (P := P) true hlo hhi (Nat.le_refl _) 0 (Nat.le_refl _) h
          have l0' : l = 0 := by omega
          have h0 : h' = 0 := by omega
          subst l0' h0
          exact ⟨_, .slice (some ad) 0 0, by simp [Instr.sliceAt, Instr.slice, run_underlying hd, run, hz'], .sl _ _ _ _ _ _ hb ⟨hm.1, fun _ => ⟨by simp [l1], .inr (.inl ⟨z1, l1, ad, rfl⟩)⟩⟩, k⟩
        · obtain ⟨arr0, cap0, h10, h20, h30, h40, h50⟩ := hs.arr b cb e' s z' gen l0 hb hg
          have hrc : n ≤ room gen s i n l0.length ∧ room gen s i n l0.length ≤ cap ∧ i + room gen s i n l0.length ≤ l0.length := by
            rcases room_cases gen s i n l0.length with h | ⟨hg2, hs2, h⟩
            · omega
            · have : i + cap = cap0 := by
                simp only [rowSize, h10] at hsz'
                rw [h20] at hsz'
                exact Nat.eq_of_mul_eq_mul_right (by omega) hsz'
              have := h30.2 hg2
              omega
          obtain ⟨l, h', hl, hh, run, k⟩ := xbounds_ok (P := P) true hlo hhi hrc.1 cap hrc.2.1 h
          have hrun : (Instr.sliceAt t (.slice (some ⟨cb, off, none⟩) n cap) lv hv none).run P w = .ok (.slice (if cap = l then some ⟨cb, off, none⟩ else some ⟨cb, off + l * z.size, none⟩) (h' - l) (cap - l)) w := by
            simp [Instr.sliceAt, Instr.slice, run_underlying hd, run, hz', Addr.add_lit]
          refine ⟨_, _, hrun, .sl _ _ _ _ _ _ hb ⟨hm.1, fun _ => ⟨by omega, .inr <| .inr ⟨hne, cb, cap - l, (if cap = l then off else off + l * z.size), hg, by split <;> rfl, ?_, by omega, by omega, ?_, ?_⟩⟩⟩, k⟩
          · rw [← hsz']; congr 1; omega
          · by_cases hcl : cap = l
            · left; omega
            · right; rw [if_neg hcl, hoff.resolve_left (by omega), ← hs1, Nat.add_mul]
          · intro hil
            have : i = 0 := by omega
            have hl0 : l = 0 := by omega
            subst this hl0
            simp [hoff0 rfl]
    · exact h.elim

theorem xextract_ok {c H x v i} {K : AV → Prop} (h : xextract x i K) (hx : RA w c H x v) : ∃ y val, (Instr.extract v i).run P w = .ok val w ∧ RA w c H y val ∧ K y := by
  unfold xextract at h
  split at h
  · rename_i vs
    rw [opt_iff] at h
    obtain ⟨a, ha, h⟩ := h
    cases hx with | tup _ us hl hr =>
    obtain ⟨u, hu⟩ := arr_get (a := us) (i := i) (by have := lt_of_getElem? ha; omega)
    exact ⟨a, u, by simp [Instr.extract, hu], hr i a u ha hu, h⟩
  · exact h.elim

theorem RT.oneCell {M x v} (h : RT w M x v) (h1 : x.one = true) : v.oneCell' = true ∧ v.cells = #[v] := by
  cases h <;> first | exact ⟨rfl, rfl⟩ | (simp [T.one] at h1; done) | (rename_i h; cases h; exact ⟨rfl, rfl⟩)

theorem RA.oneCell {c H x v} (h : RA w c H x v) (h1 : x.one = true) : v.oneCell' = true ∧ v.cells = #[v] := by
  cases h with
  | t x v hx => exact hx.oneCell h1
  | ptr b g i o v blk hb hm hv => obtain ⟨a, rfl⟩ := hv; exact ⟨rfl, rfl⟩
  | sl b g i n v blk hb hm hv => obtain ⟨a, n, m, rfl⟩ := hv; exact ⟨rfl, rfl⟩
  | agg => simp [AV.one] at h1
  | tup => simp [AV.one] at h1
  | junk => simp [AV.one] at h1
  | fn => exact ⟨rfl, rfl⟩
  | ifc => exact ⟨rfl, rfl⟩
  | emp => exact ⟨rfl, rfl⟩

/-- A value, cell by cell. -/
theorem RA.cells {c H x v} (h : RA w c H x v) (h1 : x.cells.all AV.one = true) : x.cells.length = v.cells.size ∧
    ∀ (j : Nat) y u, x.cells[j]? = some y → v.cells[j]? = some u → y.one = true ∧ RA w c H y u ∧ u.oneCell' = true := by
  have all : ∀ (j : Nat) y, x.cells[j]? = some y → y.one = true := fun j y hj => by
    rw [List.all_eq_true] at h1
    exact h1 y (List.mem_of_getElem? hj)
  have single : x.cells = [x] → x.cells.length = v.cells.size ∧ ∀ (j : Nat) y u, x.cells[j]? = some y → v.cells[j]? = some u → y.one = true ∧ RA w c H y u ∧ u.oneCell' = true := by
    intro hx
    have hx1 := all 0 x (by rw [hx]; rfl)
    obtain ⟨o1, o2⟩ := h.oneCell hx1
    rw [hx, o2]
    refine ⟨rfl, fun j y u hj hu => ?_⟩
    cases j with
    | zero => simp at hj hu; subst hj hu; exact ⟨hx1, h, o1⟩
    | succ j => simp at hj
  cases h with
  | agg cs vs hl h2 hr =>
    exact ⟨hl, fun j y u hj hu => ⟨all j y hj, hr j y u hj hu, ((hr j y u hj hu).oneCell (all j y hj)).1⟩⟩
  | t x v hx =>
    cases hx with
    | agg cs vs hl h2 hr =>
      refine ⟨by simp only [AV.cells, List.length_map]; exact hl, fun j y u hj hu => ?_⟩
      have hy := all j y hj
      simp only [AV.cells, List.getElem?_map, Option.map_eq_some_iff] at hj
      obtain ⟨z, hz, rfl⟩ := hj
      exact ⟨hy, .t _ _ (hr j z u hz hu), ((hr j z u hz hu).oneCell hy).1⟩
    | _ => exact single rfl
  | _ => exact single rfl

/-- A value of data alone, cell by cell. -/
theorem toTs_spec : ∀ {cs : List AV} {l : List T}, toTs cs = some l → cs = l.map .t
  | [], l, h => by simp [toTs] at h; subst h; rfl
  | a :: r, l, h => by
    simp only [toTs] at h
    split at h
    · rename_i x l' hx hl'
      cases h
      have ha : a = .t x := by cases a <;> simp [toT1] at hx; rw [hx]
      rw [ha, toTs_spec hl']; rfl
    · cases h

theorem xpick_ok {c H x y z u v t} {K : AV → Prop} (h : xpick x y z K) (hx : RA w c H x u) (hy : RA w c H y v) (hz : RA w c H z t) (ρu : asBool u = pure true ∨ asBool u = pure false ∨ True) :
    ∃ b a val, u = .bool b ∧ val = (if b then v else t) ∧ RA w c H a val ∧ K a := by
  unfold xpick at h
  split at h
  · rename_i b
    obtain rfl := hx.bool
    split at h
    · rename_i p q
      obtain rfl := hy.bool
      obtain rfl := hz.bool
      cases b
      · exact ⟨_, _, _, rfl, rfl, hz, h⟩
      · exact ⟨_, _, _, rfl, rfl, hy, h⟩
    · rw [br_iff] at h
      rcases h with ⟨rfl, h⟩ | ⟨rfl, h⟩
      · exact ⟨_, _, _, rfl, rfl, hy, h⟩
      · exact ⟨_, _, _, rfl, rfl, hz, h⟩
  · exact h.elim

theorem xassign_ok {tab : Tab} {t : TypeId} {c H B x v} {K : AV → AH → Prop} (hs : HS w c H B) (h : xassign tab t x H K) (hx : RA w c H x v) : MOut P (pure v) w c H B K := by
  have keep : K x H → MOut P (pure v) w c H B K := fun k => .here hs rfl hx k
  unfold xassign at h
  split at h
  · split at h
    · split at h
      · split at h
        · split at h
          · rename_i x1 y hy x2 e he x3 z hz x4 hb
            cases hx with | t _ _ hx =>
            cases hx
            obtain ⟨ev, hs'⟩ := new_none hs (.arr e z.size true 0 (.ts []))
            exact ⟨_, _, w, c, _, rfl, .sl H.length 0 0 0 _ (.arr e z.size true 0 (.ts [])) getElem?_snoc_eq ⟨Nat.le_refl _, fun _ => ⟨by simp [Sq.length], .inl ⟨rfl, rfl, rfl⟩⟩⟩, hs', ev, Below.refl _ _, h⟩
          · exact keep h
        · exact keep h
      · exact keep h
    · exact keep h
  · exact keep h

/-- Values that a nil check lets by. -/
def derefs : Value → Bool
  | .pointer none => false
  | .nilIface => false
  | .nilFunc => false
  | .func (.method _) _ _ => false
  | _ => true

theorem exec_nilCheck {ρ : Operand → Value} {o : Oper} {x : Operand} (ho : o.op = .nilCheck x) (h : derefs (ρ x) = true) : execOp ρ o = pure (.value (ρ x)) := by
  unfold execOp
  rw [ho]
  simp only []
  generalize ρ x = u at h ⊢
  cases u with
  | pointer a => cases a <;> first | rfl | (simp [derefs] at h)
  | nilIface => simp [derefs] at h
  | nilFunc => simp [derefs] at h
  | func f a b => cases f <;> first | rfl | (simp [derefs] at h)
  | _ => rfl

theorem xnilCheck_ok {c H x v} {K : AV → Prop} (h : xnilCheck H x K) (hx : RA w c H x v) : derefs v = true ∧ K x := by
  unfold xnilCheck at h
  split at h
  · cases hx with | t _ _ hx =>
    cases hx
    exact ⟨rfl, h⟩
  · cases hx with | ptr _ _ _ _ _ blk hb hm hv =>
    rw [hb] at h
    cases blk with
    | dead => exact h.elim
    | iter => exact h.elim
    | box cells => obtain ⟨cb, _, rfl⟩ := hm; exact ⟨rfl, h⟩
    | arr e s z gen l =>
      simp only at h
      rw [ck_iff] at h
      obtain ⟨hg, h⟩ := h
      obtain ⟨cb, _, rfl⟩ := hm.2 (Nat.eq_of_beq_eq_true hg)
      exact ⟨rfl, h⟩
  · cases hx with | t _ _ hx =>
    cases hx
    exact ⟨rfl, h⟩
  · cases hx
    exact ⟨rfl, h⟩
  · exact h.elim

/-- The cells of a list, put in from a place on. -/
theorem setAt_length {α : Type} : ∀ (cs l : List α) (o : Nat), (setAt l o cs).length = l.length
  | [], l, o => rfl
  | x :: r, l, o => by simp [setAt, setAt_length r]

theorem setAt_get {α : Type} : ∀ (cs l : List α) (o i : Nat), o + cs.length ≤ l.length → (setAt l o cs)[i]? = if o ≤ i ∧ i < o + cs.length then cs[i - o]? else l[i]?
  | [], l, o, i, _ => by simp [setAt]; intro h1 h2; omega
  | x :: r, l, o, i, h => by
    simp only [setAt]
    rw [setAt_get r (l.set o x) (o + 1) i (by simp at h ⊢; omega)]
    simp only [List.length_cons] at h ⊢
    by_cases h1 : i = o
    · subst h1
      have : ¬ (i + 1 ≤ i ∧ i < i + 1 + r.length) := by omega
      rw [if_neg this, if_pos (by omega), List.getElem?_set_self (by omega)]
      simp
    · by_cases h2 : o + 1 ≤ i ∧ i < o + 1 + r.length
      · rw [if_pos h2, if_pos (by omega)]
        rw [show i - o = (i - (o + 1)) + 1 by omega, List.getElem?_cons_succ]
      · rw [if_neg h2, if_neg (by omega), List.getElem?_set_ne (by omega)]

theorem seg_get {vs : List Value} {arr : Array Value} {o i : Nat} (h : o + vs.length ≤ arr.size) :
    (arr.toList.take o ++ vs ++ arr.toList.drop (o + vs.length)).toArray[i]? = if o ≤ i ∧ i < o + vs.length then vs[i - o]? else arr[i]? := by
  simp only [List.getElem?_toArray]
  by_cases h1 : i < o
  · rw [if_neg (by omega), List.append_assoc, List.getElem?_append_left (by simp; omega), List.getElem?_take_of_lt h1]; simp
  · by_cases h2 : i < o + vs.length
    · rw [if_pos (by omega), List.append_assoc, List.getElem?_append_right (by simp; omega), List.getElem?_append_left (by simp; omega)]
      congr 1; simp; omega
    · rw [if_neg (by omega), List.getElem?_append_right (by simp; omega), List.getElem?_drop]
      simp only [List.length_append, List.length_take, Array.length_toList, Array.getElem?_toList]
      congr 1; omega

theorem seg_size {vs : List Value} {arr : Array Value} {o : Nat} (h : o + vs.length ≤ arr.size) : (arr.toList.take o ++ vs ++ arr.toList.drop (o + vs.length)).toArray.size = arr.size := by
  simp; omega

theorem run_storeVar {tab : Tab} (hT : TabOK P tab) {t : TypeId} {y : TyI} (hy : tab t = some y) {cb o : Nat} {arr : Array Value} {e : TypeId} (hc : w.heap[cb]? = some (.cells arr e (0, 0))) {v : Value}
    (hsz : v.cells.size = y.size) (hfit : o + y.size ≤ arr.size) (h1 : ∀ u ∈ v.cells.toList, u.oneCell' = true) :
    (storeVar t ⟨cb, o, none⟩ v).run P w = .ok () (w.setRow cb (arr.toList.take o ++ v.cells.toList ++ arr.toList.drop (o + v.cells.toList.length)).toArray) := by
  have hst := run_storeCells_at P cb o e v.cells.toList 0 arr w hc (by simp; omega) h1
  simp only [Nat.add_zero] at hst
  simp only [storeVar, Sem.run_bind, run_sizeOf hT hy, Result.andThen_ok, hsz, ne_eq, not_true_eq_false, if_false]
  exact hst

theorem below_setRow' {w : World} {B cb : Nat} (h : B ≤ cb) (arr : Array Value) : Below B w (w.setRow cb arr) :=
  ⟨rfl, rfl, rfl, by simp, fun k hk => setRow_other w cb k arr (by omega)⟩

theorem T.cells_one {x : T} (h : x.one = true) : x.cells = [x] := by cases x <;> first | rfl | (simp [T.one] at h)

theorem setCells_cells {x : T} {o : Nat} {cs : List T} (h : o + cs.length ≤ x.cells.length) (h1 : cs.all T.one = true) : (setCells x o cs).cells = setAt x.cells o cs := by
  cases x with
  | agg l => rfl
  | _ =>
    cases cs with
    | nil => rfl
    | cons c r =>
      have hr : r = [] := by
        cases r with
        | nil => rfl
        | cons => exfalso; simp [T.cells] at h; omega
      subst hr
      have ho : o = 0 := by simp [T.cells] at h; exact h
      subst ho
      simp at h1
      simp only [setCells, T.cells_one h1]
      rfl

theorem setAt_map {α β : Type} (f : α → β) : ∀ (cs l : List α) (o : Nat), (setAt l o cs).map f = setAt (l.map f) o (cs.map f)
  | [], l, o => rfl
  | c :: r, l, o => by simp only [setAt, List.map_cons]; rw [setAt_map f r, List.map_set]

def one? (x : AV) : List AV → AV
  | [c] => c
  | _ => x

theorem setCellsA_single {x : AV} {o : Nat} {cs : List AV} (h : o + cs.length ≤ x.cells.length) (h1 : cs.all AV.one = true) (hx : x.cells = [x]) : (one? x cs).cells = setAt x.cells o cs := by
  cases cs with
  | nil => rfl
  | cons c r =>
    have hl : x.cells.length = 1 := by rw [hx]; rfl
    have hr : r = [] := List.length_eq_zero_iff.1 (by simp at h; omega)
    subst hr
    have ho : o = 0 := by simp at h; omega
    subst ho
    simp only [List.all_cons, List.all_nil, Bool.and_true] at h1
    rw [hx]
    simp only [setAt, one?]
    cases c with
    | t c => rw [T.cells_t, T.cells_one h1]; rfl
    | agg => simp [AV.one] at h1
    | tup => simp [AV.one] at h1
    | junk => simp [AV.one] at h1
    | own => simp [AV.one] at h1
    | _ => rfl

theorem setCellsA_cells {x : AV} {o : Nat} {cs : List AV} (h : o + cs.length ≤ x.cells.length) (h1 : cs.all AV.one = true) : (setCellsA x o cs).cells = setAt x.cells o cs := by
  have he : ∀ {x : AV}, (∀ o cs, setCellsA x o cs = one? x cs) → x.cells = [x] → o + cs.length ≤ x.cells.length → (setCellsA x o cs).cells = setAt x.cells o cs := fun e hx h => by
    rw [e]; exact setCellsA_single h h1 hx
  cases x with
  | agg l => rfl
  | t x => cases x <;> first | rfl | exact he (fun _ _ => rfl) rfl h
  | _ => exact he (fun _ _ => rfl) rfl h

theorem xstore_ok {tab : Tab} (hT : TabOK P tab) {t : TypeId} {c H B a x v u} {K : AH → Prop} (hs : HS w c H B) (h : xstore tab t H a x K) (ha : RA w c H a v) (hx : RA w c H x u) :
    ∃ w' H', (Instr.storeAt t v u).run P w = .ok () w' ∧ HS w' c H' B ∧ Ev w c H w' c H' ∧ Below B w w' ∧ K H' := by
  unfold xstore at h
  rw [opt_iff] at h
  obtain ⟨y, hy, h⟩ := h
  split at h
  · rename_i b g i o
    cases ha with | ptr _ _ _ _ _ blk hb hm hv =>
    rw [hb] at h
    cases blk with
    | dead => exact h.elim
    | iter => exact h.elim
    | box cells =>
      simp only at h
      rw [ck_iff] at h
      obtain ⟨hc, h⟩ := h
      simp only [Bool.and_eq_true] at hc
      have c1 := Nat.eq_of_beq_eq_true hc.1.1
      have c2 := Nat.le_of_ble_eq_true hc.1.2
      obtain ⟨cl, cr⟩ := hx.cells hc.2
      obtain ⟨cb, hg, rfl⟩ := hm
      obtain ⟨arr, e, h1, h2, h3⟩ := hs.box b cb cells hb hg
      have hone : ∀ z ∈ u.cells.toList, z.oneCell' = true := fun z hz => by
        obtain ⟨j, hj, rfl⟩ := List.getElem_of_mem hz
        have hj' : j < u.cells.size := by simpa using hj
        exact (cr j _ _ (List.getElem?_eq_getElem (by omega)) (by simp [hj'])).2.2
      have hfit : o + u.cells.toList.length ≤ arr.size := by simp; omega
      have run := run_storeVar (P := P) hT hy h1 (o := o) (by omega) (by omega) hone
      obtain ⟨ev, hs'⟩ := set_box hs hb hg h1 (seg_size hfit) h2 (setAt_length x.cells cells o) (fun j y' v' hj hv' => by
        rw [setAt_get _ _ _ _ (by omega)] at hj
        rw [seg_get hfit] at hv'
        have hlen : x.cells.length = u.cells.toList.length := by simpa using cl
        by_cases hin : o ≤ j ∧ j < o + x.cells.length
        · rw [if_pos hin] at hj
          rw [if_pos (by omega)] at hv'
          exact cr _ _ _ hj (by simpa using hv')
        · rw [if_neg hin] at hj
          rw [if_neg (by omega)] at hv'
          exact h3 j y' v' hj hv')
      exact ⟨_, _, by simpa [Instr.storeAt, Instr.sureAddr] using run, hs', ev, below_setRow' (hs.base b cb hg).1 _, h⟩
    | arr e s z gen l =>
      have row : ∀ x0 x' l', g.beq gen = true → l.get i = some x0 → l'.length = l.length → (∀ k, l'.get k = if k = i then some x' else l.get k) → x'.cells = setAt x0.cells o x.cells →
          x.cells.length = y.size → o + y.size ≤ x0.cells.length → x.cells.all AV.one = true → K (H.set b (.arr e s z gen l')) →
          ∃ w' H', (Instr.storeAt t v u).run P w = .ok () w' ∧ HS w' c H' B ∧ Ev w c H w' c H' ∧ Below B w w' ∧ K H' := by
        intro x0 x' l' hgg hx0 hll hget hcells c1 c2 hall h
        obtain ⟨cl, cr⟩ := hx.cells hall
        obtain ⟨cb, hg, rfl⟩ := hm.2 (Nat.eq_of_beq_eq_true hgg)
        obtain ⟨arr, cap, h1, h2, h3, h4, h5⟩ := hs.arr b cb e s z gen l hb hg
        obtain ⟨h6, h7⟩ := h5 i x0 hx0
        have hone : ∀ z ∈ u.cells.toList, z.oneCell' = true := fun z hz => by
          obtain ⟨j, hj, rfl⟩ := List.getElem_of_mem hz
          have hj' : j < u.cells.size := by simpa using hj
          exact (cr j _ _ (List.getElem?_eq_getElem (by omega)) (by simp [hj'])).2.2
        have hil := Sq.get_lt hx0
        have hrow : i * s + s ≤ arr.size := by
          rw [h2, ← Nat.succ_mul]; exact Nat.mul_le_mul_right _ (by omega)
        have hfit : i * s + o + u.cells.toList.length ≤ arr.size := by simp; omega
        have run := run_storeVar (P := P) hT hy h1 (o := i * s + o) (by omega) (by omega) hone
        have hul : u.cells.toList.length = x.cells.length := by simp; omega
        obtain ⟨ev, hs'⟩ := set_arr hs hb hg h1 (seg_size hfit) h2 (l' := l') (g' := gen) (by rw [hll]; exact h3) h4 (Nat.le_refl _) (by rw [hll]; exact Nat.le_refl _) (fun _ => hll) (fun k z hk => by
          rw [hget] at hk
          by_cases hki : k = i
          · subst hki
            rw [if_pos rfl] at hk
            cases hk
            rw [hcells]
            refine ⟨by rw [setAt_length]; exact h6, fun j y' hj => ?_⟩
            have hjs : j < s := by have := lt_of_getElem? hj; rw [setAt_length] at this; omega
            rw [setAt_get _ _ _ _ (by omega)] at hj
            rw [seg_get hfit]
            by_cases hin : o ≤ j ∧ j < o + x.cells.length
            · rw [if_pos hin] at hj
              rw [if_pos (by omega)]
              obtain ⟨q, hq⟩ := arr_get (a := u.cells) (i := j - o) (by omega)
              refine ⟨q, by rw [show k * s + j - (k * s + o) = j - o by omega]; simpa using hq, ?_⟩
              exact cr (j - o) y' q hj hq
            · rw [if_neg hin] at hj
              rw [if_neg (by omega)]
              exact h7 j y' hj
          · rw [if_neg hki] at hk
            obtain ⟨q1, q2⟩ := h5 k z hk
            refine ⟨q1, fun j y' hj => ?_⟩
            have hjs : j < s := by have := lt_of_getElem? hj; omega
            rw [seg_get hfit, if_neg]
            · exact q2 j y' hj
            · intro hh
              have : u.cells.toList.length ≤ s - o := by omega
              rcases Nat.lt_or_ge k i with hlt | hge
              · have : k * s + s ≤ i * s := by rw [← Nat.succ_mul]; exact Nat.mul_le_mul_right _ hlt
                omega
              · have : i * s + s ≤ k * s := by rw [← Nat.succ_mul]; exact Nat.mul_le_mul_right _ (by omega)
                omega)
        exact ⟨_, _, by simpa [Instr.storeAt, Instr.sureAddr] using run, hs', ev, below_setRow' (hs.base b cb hg).1 _, h⟩
      have setget : ∀ {α : Type} {l : List α} {x0 x' : α}, l[i]? = some x0 → ∀ k, (l.set i x')[k]? = if k = i then some x' else l[k]? := by
        intro α l x0 x' hx0 k
        by_cases hk : k = i
        · subst hk; rw [if_pos rfl, List.getElem?_set_self (lt_of_getElem? hx0)]
        · rw [if_neg hk, List.getElem?_set_ne (Ne.symm hk)]
      cases l with
      | ts l =>
        simp only at h
        rw [ck_iff] at h
        obtain ⟨hgg, h⟩ := h
        rw [opt_iff] at h
        obtain ⟨x0, hx0, h⟩ := h
        split at h
        · rename_i cs hcs
          rw [ck_iff] at h
          obtain ⟨hc, h⟩ := h
          simp only [Bool.and_eq_true] at hc
          have c1 := Nat.eq_of_beq_eq_true hc.1.1
          have c2 := Nat.le_of_ble_eq_true hc.1.2
          have c3 := hc.2
          have hxc := toTs_spec hcs
          refine row (.t x0) (.t (setCells x0 o cs)) (.ts (l.set i (setCells x0 o cs))) hgg (by simp [Sq.get, hx0]) (by simp [Sq.length]) (fun k => ?_) ?_ (by rw [hxc]; simpa using c1) (by rw [T.cells_t]; simpa using c2) (by rw [hxc, List.all_map]; exact c3) h
          · simp only [Sq.get]
            rw [setget hx0 k]
            split <;> rfl
          · rw [T.cells_t, T.cells_t, setCells_cells (by omega) c3, hxc, setAt_map]
        · rw [ck_iff] at h
          obtain ⟨hc, h⟩ := h
          simp only [Bool.and_eq_true] at hc
          have c1 := Nat.eq_of_beq_eq_true hc.1.1
          have c2 := Nat.le_of_ble_eq_true hc.1.2
          have hx0' : (l.map AV.t)[i]? = some (.t x0) := by simp [hx0]
          refine row (.t x0) _ (.vs ((l.map .t).set i (setCellsA (.t x0) o x.cells))) hgg (by simp [Sq.get, hx0]) (by simp [Sq.length]) (fun k => ?_) (setCellsA_cells (by rw [T.cells_t]; simp; omega) hc.2) c1 (by rw [T.cells_t]; simpa using c2) hc.2 h
          · simp only [Sq.get]
            rw [setget hx0' k, List.getElem?_map]
      | vs l =>
        simp only at h
        rw [ck_iff] at h
        obtain ⟨hgg, h⟩ := h
        rw [opt_iff] at h
        obtain ⟨x0, hx0, h⟩ := h
        rw [ck_iff] at h
        obtain ⟨hc, h⟩ := h
        simp only [Bool.and_eq_true] at hc
        have c1 := Nat.eq_of_beq_eq_true hc.1.1
        have c2 := Nat.le_of_ble_eq_true hc.1.2
        exact row x0 _ (.vs (l.set i (setCellsA x0 o x.cells))) hgg hx0 (by simp [Sq.length]) (fun k => by simp only [Sq.get]; exact setget hx0 k) (setCellsA_cells (by omega) hc.2) c1 c2 hc.2 h
  · exact h.elim

end
end Go.Proofs.YthpkehhghcpolaaDoor

namespace Go.Proofs.YthpkehhghcpolaaDoor
open Go.RowKit
set_option linter.unusedVariables false
set_option linter.unusedSimpArgs false

section
variable {P : Program} {w : World}

theorem ofV1_ok {M : Nat → Prop} {v : Value} {x : T} (h : ofV1 v = some x) : RT w M x v := by
  unfold ofV1 at h
  split at h <;> first | (cases h; constructor) | cases h

theorem ofVs_ok {M : Nat → Prop} : ∀ {vs : List Value} {l : List T}, ofVs vs = some l → l.length = vs.length ∧ ∀ (i : Nat) x v, l[i]? = some x → vs[i]? = some v → RT w M x v
  | [], l, h => by simp [ofVs] at h; subst h; simp
  | v :: r, l, h => by
    simp only [ofVs] at h
    split at h
    · rename_i x l' hx hl
      cases h
      obtain ⟨h1, h2⟩ := ofVs_ok (M := M) hl
      refine ⟨by simp [h1], fun i y u hi hu => ?_⟩
      cases i with
      | zero => simp at hi hu; subst hi hu; exact ofV1_ok hx
      | succ i => simp at hi hu; exact h2 i y u hi hu
    · cases h

theorem ofVal_ok {c H} (v : Value) : RA w c H (ofVal v) v := by
  unfold ofVal
  split
  · rename_i x hx
    cases v with
    | agg cs =>
      simp only [ofV, Option.map_eq_some_iff] at hx
      obtain ⟨l, hl, rfl⟩ := hx
      obtain ⟨h1, h2⟩ := ofVs_ok (w := w) (M := c.M H) hl
      refine .t _ _ (.agg l cs (by simpa using h1) (fun i y hi => ?_) (fun i y u hi hu => h2 i y u hi (by simpa using hu)))
      have hlt := lt_of_getElem? hi
      have e : cs.toList[i]? = some (cs.toList[i]'(by omega)) := List.getElem?_eq_getElem _
      have hone : ∀ {vs : List Value} {l : List T}, ofVs vs = some l → ∀ (i : Nat) y, l[i]? = some y → y.one = true := by
        intro vs
        induction vs with
        | nil => intro l h; simp [ofVs] at h; subst h; simp
        | cons v r ih =>
          intro l h
          simp only [ofVs] at h
          split at h
          · rename_i x l' hx' hl'
            cases h
            intro i y hi
            cases i with
            | zero =>
              simp at hi; subst hi
              unfold ofV1 at hx'
              split at hx' <;> first | (cases hx'; rfl) | cases hx'
            | succ i => simp at hi; exact ih hl' i y hi
          · cases h
      exact hone hl i y hi
    | _ => exact .t _ _ (ofV1_ok hx)
  · exact .junk v

theorem run_zero {tab : Tab} (hT : TabOK P tab) {t : TypeId} {y : TyI} (hy : tab t = some y) {zs : List T} (hz : y.zero = some zs) :
    ∃ z : Value, (zeroValue t).run P w = .ok z w ∧ ofVs z.cells.toList = some zs ∧ ∃ i, P.info? t = some i ∧ i.zero = some z ∧ i.size = y.size ∧ i.bytes = y.bytes := by
  obtain ⟨i, hi, hs, hb, hz'⟩ := (hT t y hy).info
  obtain ⟨z, hz1, hz2⟩ := hz' zs hz
  exact ⟨z, by simp [zeroValue, typeInfo, hi, hz1], hz2, i, hi, hz1, hs, hb⟩

/-- A value that goes into a variable of its own. -/
theorem newVar_ok {c H B} (hs : HS w c H B) (e : TypeId) {x : AV} {v : Value} (hx : RA w c H x v) (h1 : x.cells.all AV.one = true) :
    RA (w.alloc (.cells v.cells e)) (c.new H.length w.heap.size) (H ++ [.box x.cells]) (.ptr H.length 0 0 0) (.pointer (some ⟨w.heap.size, 0, none⟩)) ∧
    HS (w.alloc (.cells v.cells e)) (c.new H.length w.heap.size) (H ++ [.box x.cells]) B ∧
    Ev w c H (w.alloc (.cells v.cells e)) (c.new H.length w.heap.size) (H ++ [.box x.cells]) ∧ Below B w (w.alloc (.cells v.cells e)) := by
  obtain ⟨cl, cr⟩ := hx.cells h1
  exact ⟨.ptr _ _ _ _ _ _ (new_at (w := w) (c := c) _).1 ⟨_, (new_at (.box x.cells)).2, rfl⟩, new_box hs e x.cells v.cells cl.symm cr, ev_new hs _ _, below_new hs.hB _⟩

theorem xbox_ok {c H B x v} {K : AV → AH → Prop} (hs : HS w c H B) (e : TypeId) (hx : RA w c H x v) (h1 : x.cells.all AV.one = true) (k : K (.ptr H.length 0 0 0) (H ++ [.box x.cells])) :
    MOut P (Instr.box e v) w c H B K := by
  obtain ⟨r, h, ev, b⟩ := newVar_ok hs e hx h1
  exact ⟨_, _, _, _, _, by simp [Instr.box, newVar, newRow], r, h, ev, b, k⟩

theorem agg_of_zero {c H} {z : Value} {zs : List T} (h : ofVs z.cells.toList = some zs) (h1 : zs.all T.one = true) : RA w c H (.agg (zs.map .t)) (.agg z.cells) := by
  obtain ⟨k1, k2⟩ := ofVs_ok (w := w) (M := c.M H) h
  refine .agg _ _ (by simpa using k1) (fun i x hi => ?_) (fun i x v hi hv => ?_)
  · simp only [List.getElem?_map, Option.map_eq_some_iff] at hi
    obtain ⟨y, hy, rfl⟩ := hi
    rw [List.all_eq_true] at h1
    exact h1 y (List.mem_of_getElem? hy)
  · simp only [List.getElem?_map, Option.map_eq_some_iff] at hi
    obtain ⟨y, hy, rfl⟩ := hi
    exact .t _ _ (k2 i y v hy (by simpa using hv))

theorem xalloc_ok {tab : Tab} (hT : TabOK P tab) {t : TypeId} {y : TyI} (hy : tab t = some y) {zs : List T} (hz : y.zero = some zs) (h1 : zs.all T.one = true) {c H B} {K : AV → AH → Prop} (hs : HS w c H B)
    (k : K (.ptr H.length 0 0 0) (H ++ [.box (zs.map .t)])) (old : Value) : MOut P (Instr.alloc t true old) w c H B K := by
  obtain ⟨z, r, hz, _⟩ := run_zero (w := w) hT hy hz
  have ha := agg_of_zero (w := w) (c := c) (H := H) hz h1
  have hall : (AV.agg (zs.map .t)).cells.all AV.one = true := by simp only [AV.cells, List.all_map]; exact h1
  obtain ⟨r1, h, ev, b⟩ := newVar_ok hs t ha hall
  refine ⟨_, _, _, _, _, ?_, r1, h, ev, b, k⟩
  simp [Instr.alloc, r, newVar, newRow]
  rfl

/-- A big variable: a row of one element. -/
theorem big_rowed {c : Cx} {H : AH} {z : Value} {zs : List T} {n : Nat} (hz : ofVs z.cells.toList = some zs) (h1 : zs.all T.one = true) (hl : zs.length = n) : z.cells.size = n ∧ Rowed w c H n (.ts [.agg zs]) z.cells := by
  have ha := agg_of_zero (w := w) (c := c) (H := H) hz h1
  have hall : (AV.agg (zs.map .t)).cells.all AV.one = true := by simp only [AV.cells, List.all_map]; exact h1
  obtain ⟨cl, cr⟩ := ha.cells hall
  have hsz : z.cells.size = n := by
    have : (Value.agg z.cells).cells.size = z.cells.size := rfl
    rw [← this, ← cl]
    simp only [AV.cells, List.length_map, hl]
  refine ⟨hsz, ?_⟩
  intro i x hi
  match i with
  | 0 =>
    obtain rfl : AV.t (.agg zs) = x := by simpa [Sq.get] using hi
    refine ⟨by simp [AV.cells, hl], fun j u hj => ?_⟩
    have hj' : (AV.agg (zs.map .t)).cells[j]? = some u := hj
    have hjl : j < z.cells.size := by
      have h2 := (List.getElem?_eq_some_iff.1 hj').1
      simp only [AV.cells, List.length_map, hl] at h2
      omega
    have hv : z.cells[j]? = some z.cells[j] := Array.getElem?_eq_getElem hjl
    have := cr j u _ hj' hv
    exact ⟨_, by rw [Nat.zero_mul, Nat.zero_add]; exact hv, this⟩
  | i + 1 => simp [Sq.get] at hi

theorem xallocArr_ok {tab : Tab} (hT : TabOK P tab) {t : TypeId} {y : TyI} (hy : tab t = some y) {zs : List T} (hz : y.zero = some zs) (h1 : zs.all T.one = true) (hl : zs.length = y.size) {c H B} {K : AV → AH → Prop} (hs : HS w c H B)
    (k : K (.ptr H.length 0 0 0) (H ++ [.arr t y.size false 0 (.ts [.agg zs])])) (old : Value) : MOut P (Instr.alloc t true old) w c H B K := by
  obtain ⟨z, r, hz, _⟩ := run_zero (w := w) hT hy hz
  obtain ⟨hsz, hR⟩ := big_rowed (w := w) (c := c) (H := H) hz h1 hl
  refine ⟨_, _, _, _, _, ?_, .ptr _ _ _ _ _ _ (new_at (w := w) (c := c) (.arr t y.size false 0 (.ts [.agg zs]))).1 ⟨Nat.le_refl _, fun _ => ⟨_, (new_at (.arr t y.size false 0 (.ts [.agg zs]))).2, by rw [Nat.zero_mul]⟩⟩,
    new_arr hs t y.size false 0 (.ts [.agg zs]) z.cells 1 (by omega) ⟨Nat.le_refl _, fun h => by cases h⟩ (by decide) hR, ev_new hs _ _, below_new hs.hB _, k⟩
  simp [Instr.alloc, r, newVar, newRow]

/-! ### Through a string -/

theorem xrange_ok {tab : Tab} (hT : TabOK P tab) {t : TypeId} {c H B x v} {K : AV → AH → Prop} (hs : HS w c H B) (h : xrange tab t x H K) (hx : RA w c H x v) : MOut P (Instr.range t v) w c H B K := by
  unfold xrange at h
  rw [opt_iff] at h
  obtain ⟨y, hy, h⟩ := h
  have hd := (hT t y hy).d
  split at h
  · rename_i s he
    rw [he] at hd
    cases hx with | t _ _ hx =>
    cases hx with | str bs =>
    exact ⟨_, _, w.alloc (.stringIter bs 0), _, _, run_range_string w t bs hd, .ptr _ _ _ _ _ _ (new_at (w := w) (c := c) (.iter bs.data.toList 0)).1 ⟨_, (new_at (.iter bs.data.toList 0)).2, rfl⟩, new_iter hs bs 0, ev_new hs _ _, below_new hs.hB _, h⟩
  · exact h.elim

theorem xnext_ok {c H B x v st} {K : AV → AH → Prop} (hs : HS w c H B) (h : xnext x st H K) (hx : RA w c H x v) (ty : TypeId) : MOut P (Instr.next v st ty) w c H B K := by
  unfold xnext at h
  split at h
  · rename_i b g i o
    cases hx with | ptr _ _ _ _ _ blk hb hm hv =>
    rw [hb] at h
    cases blk with
    | dead => exact h.elim
    | box => exact h.elim
    | arr => exact h.elim
    | iter s p =>
      simp only at h
      rw [ck_iff] at h
      obtain ⟨hc, h⟩ := h
      simp only [Bool.and_eq_true] at hc
      obtain ⟨rfl, ho⟩ := hc
      have ho := Nat.eq_of_beq_eq_true ho
      subst ho
      obtain ⟨cb, hg, rfl⟩ := hm
      obtain ⟨bs, h1, rfl⟩ := hs.iter b cb s p hb hg
      split at h
      · rename_i ch hch
        rw [ck_iff] at h
        obtain ⟨ha, h⟩ := h
        have ha : ch.toNat < 128 := by simpa [Nat.blt_eq] using ha
        have hp : p < bs.size := lt_of_getElem? hch
        have hch' : bs[p]'hp = ch := by
          rw [List.getElem?_eq_getElem hp] at hch
          exact Option.some.inj hch
        obtain ⟨ev, hs', bel⟩ := set_iter hs hb hg h1 rfl (p + 1)
        refine ⟨_, .tuple #[.bool true, .int .i64 p, .int .i32 ch.toNat], _, _, _, ?_, ?_, hs', ev, bel, h⟩
        · simp only [Instr.next, getObj, setObj, Sem.run_bind, Sem.run, h1, Result.andThen, hp, if_true, decode_ascii bs p hp (by rw [hch']; exact ha), hch']
          simp [goInt, Sem.run, h1]
        · refine .tup _ _ rfl (fun i x v hi hv => ?_)
          match i, hi, hv with
          | 0, hi, hv => simp at hi hv; subst hi hv; exact .t _ _ (.bool _)
          | 1, hi, hv => simp at hi hv; subst hi hv; exact .t _ _ (.int _ _)
          | 2, hi, hv => simp at hi hv; subst hi hv; exact .t _ _ (.int _ _)
          | i + 3, hi, hv => simp at hi
      · rename_i hch
        have hp : ¬ p < bs.size := fun hp => by
          rw [List.getElem?_eq_getElem hp] at hch
          cases hch
        refine ⟨_, .tuple #[.bool false], w, c, H, ?_, ?_, hs, Ev.refl _ _ _, Below.refl _ _, h⟩
        · simp [Instr.next, getObj, Sem.run, h1, hp]
        · refine .tup _ _ rfl (fun i x v hi hv => ?_)
          match i, hi, hv with
          | 0, hi, hv => simp at hi hv; subst hi hv; exact .t _ _ (.bool _)
          | i + 1, hi, hv => simp at hi
  · exact h.elim

/-! ### Literals -/

theorem foldl_set_size (o : Nat) : ∀ (l : List (Value × Nat)) (cs : Array Value), (l.foldl (fun cs p => cs.setIfInBounds (o + p.2) p.1) cs).size = cs.size
  | [], cs => rfl
  | p :: r, cs => by simp [foldl_set_size o r]

theorem foldl_set_get (o : Nat) : ∀ (vs : List Value) (n : Nat) (cs : Array Value) (i : Nat), o + n + vs.length ≤ cs.size →
    ((vs.zipIdx n).foldl (fun cs (p : Value × Nat) => cs.setIfInBounds (o + p.2) p.1) cs)[i]? = if o + n ≤ i ∧ i < o + n + vs.length then vs[i - (o + n)]? else cs[i]?
  | [], n, cs, i, _ => by simp; intro h1 h2; omega
  | v :: r, n, cs, i, h => by
    simp only [List.zipIdx_cons, List.foldl_cons, List.length_cons] at h ⊢
    rw [foldl_set_get o r (n + 1) _ i (by simp; omega)]
    by_cases h1 : i = o + n
    · subst h1
      rw [if_neg (by omega), if_pos (by omega), Array.getElem?_setIfInBounds_self_of_lt (by omega)]
      simp
    · by_cases h2 : o + (n + 1) ≤ i ∧ i < o + (n + 1) + r.length
      · rw [if_pos h2, if_pos (by omega), show i - (o + n) = (i - (o + (n + 1))) + 1 by omega, List.getElem?_cons_succ]
      · rw [if_neg h2, if_neg (by omega), Array.getElem?_setIfInBounds_ne (by omega)]

/-- What a part does to the cells. -/
def put1 (cells : Array Value) (off : Nat) (v : Value) : Array Value := v.cells.zipIdx.foldl (fun cs (c, j) => cs.setIfInBounds (off + j) c) cells

theorem put1_size (cells : Array Value) (off : Nat) (v : Value) : (put1 cells off v).size = cells.size := by
  unfold put1
  rw [← Array.foldl_toList]
  exact foldl_set_size off _ cells

theorem put1_get (cells : Array Value) (off : Nat) (v : Value) (h : off + v.cells.size ≤ cells.size) (i : Nat) :
    (put1 cells off v)[i]? = if off ≤ i ∧ i < off + v.cells.size then v.cells[i - off]? else cells[i]? := by
  unfold put1
  rw [← Array.foldl_toList]
  have := foldl_set_get off v.cells.toList 0 cells i (by simpa using h)
  simpa using this

theorem fill_cons {place : Nat → Option (Nat × Nat)} {cells : Array Value} {k : Nat} {v : Value} {r : List (Nat × Value)} {off size : Nat} (hp : place k = some (off, size)) (hs : v.cells.size = size) (hf : off + v.cells.size ≤ cells.size) :
    Instr.fill place cells ((k, v) :: r) = Instr.fill place (put1 cells off v) r := by
  have h2 : ¬ off + v.cells.size > cells.size := by omega
  simp [Instr.fill, hp, hs, put1]
  intro h; omega

theorem RA.put {c H} {cells : List AV} {arr : Array Value} (ha : RA w c H (.agg cells) (.agg arr)) {x : AV} {v : Value} (hx : RA w c H x v) (h1 : x.cells.all AV.one = true) {off : Nat} (hf : off + x.cells.length ≤ cells.length) :
    RA w c H (.agg (setAt cells off x.cells)) (.agg (put1 arr off v)) := by
  obtain ⟨cl, cr⟩ := hx.cells h1
  cases ha with
  | agg _ _ hl h2 hr =>
    refine .agg _ _ (by rw [setAt_length, put1_size]; exact hl) (fun i y hi => ?_) (fun i y u hi hu => ?_)
    · rw [setAt_get _ _ _ _ hf] at hi
      split at hi
      · obtain ⟨u, hu⟩ := arr_get (a := v.cells) (i := i - off) (by have := lt_of_getElem? hi; omega)
        exact (cr _ y u hi hu).1
      · exact h2 i y hi
    · rw [setAt_get _ _ _ _ hf] at hi
      rw [put1_get _ _ _ (by omega)] at hu
      by_cases hin : off ≤ i ∧ i < off + x.cells.length
      · rw [if_pos hin] at hi
        rw [if_pos (by omega)] at hu
        exact (cr _ y u hi hu).2.1
      · rw [if_neg hin] at hi
        rw [if_neg (by omega)] at hu
        exact hr i y u hi hu

/-- The parts of a literal, as the walk and as the model have them. -/
inductive RParts (w : World) (c : Cx) (H : AH) : List (Nat × AV) → List (Nat × Value) → Prop
  | nil : RParts w c H [] []
  | cons (k x v r s) (h : RA w c H x v) (t : RParts w c H r s) : RParts w c H ((k, x) :: r) ((k, v) :: s)

theorem xfill_ok {c H} {place : Nat → Option (Nat × Nat)} {parts : List (Nat × AV)} {vs : List (Nat × Value)} (hp : RParts w c H parts vs) : ∀ {cells : List AV} {arr : Array Value} {K : AV → Prop},
    RA w c H (.agg cells) (.agg arr) → xfill place cells parts K → ∃ x r, Instr.fill place arr vs = some r ∧ RA w c H x (.agg r) ∧ K x := by
  induction hp with
  | nil => intro cells arr K ha h; exact ⟨_, arr, rfl, ha, h⟩
  | cons k x v r s hx ht ih =>
    intro cells arr K ha h
    simp only [xfill] at h
    rw [opt_iff] at h
    obtain ⟨p, hpl, h⟩ := h
    rw [ck_iff] at h
    obtain ⟨hc, h⟩ := h
    simp only [Bool.and_eq_true] at hc
    have c1 := Nat.eq_of_beq_eq_true hc.1.1
    have c2 := Nat.le_of_ble_eq_true hc.1.2
    obtain ⟨cl, cr⟩ := hx.cells hc.2
    have hal : cells.length = arr.size := by cases ha with | agg _ _ hl _ _ => exact hl
    obtain ⟨y, q, h1, h2, h3⟩ := ih (ha.put hx hc.2 c2) h
    exact ⟨y, q, by rw [fill_cons (off := p.1) (size := p.2) hpl (by omega) (by omega)]; exact h1, h2, h3⟩

theorem run_mapM_sizes {tab : Tab} (hT : TabOK P tab) (fs : List Field) (h : ∀ f ∈ fs, (tab f.type).isSome = true) :
    (fs.mapM fun f => (do pure (f.offset, ← sizeOf f.type) : Sem (Nat × Nat))).run P w = .ok (fs.map fun f => (f.offset, ((tab f.type).map (·.size)).getD 0)) w := by
  induction fs with
  | nil => simp
  | cons f r ih =>
    have ih' := ih (fun g hg => h g (by simp [hg]))
    obtain ⟨y, hy⟩ := Option.isSome_iff_exists.1 (h f (by simp))
    simp only [List.mapM_cons, Sem.run_bind, run_sizeOf hT hy, Result.andThen_ok, Sem.run_pure, ih', List.map_cons, hy]
    rfl

theorem xbuild_ok {tab : Tab} (hT : TabOK P tab) {t : TypeId} {c H} {parts : List (Nat × AV)} {vs : Array (Nat × Value)} {K : AV → Prop} (hp : RParts w c H parts vs.toList) (h : xbuild tab t parts K) :
    ∃ x val, (Instr.build t vs).run P w = .ok val w ∧ RA w c H x val ∧ K x := by
  unfold xbuild at h
  rw [opt_iff] at h
  obtain ⟨y, hy, h⟩ := h
  rw [opt_iff] at h
  obtain ⟨zs, hz, h⟩ := h
  rw [ck_iff] at h
  obtain ⟨h1, h⟩ := h
  obtain ⟨z, r, hz, _⟩ := run_zero (w := w) hT hy hz
  have ha := agg_of_zero (w := w) (c := c) (H := H) hz h1
  have hd := (hT t y hy).d
  split at h
  · rename_i fs hfs
    rw [hfs] at hd
    rw [ck_iff] at h
    obtain ⟨hall, h⟩ := h
    rw [List.all_eq_true] at hall
    have hm := run_mapM_sizes (w := w) hT fs.toList hall
    have hplace : (fun k => fs[k]?.bind fun f => (tab f.type).map fun z => (f.offset, z.size)) = fun (k : Nat) => (fs.toList.map fun f => (f.offset, ((tab f.type).map (·.size)).getD 0)).toArray[k]? := by
      funext k
      simp only [List.getElem?_toArray, List.getElem?_map, Array.getElem?_toList]
      cases hk : fs[k]? with
      | none => rfl
      | some f =>
        obtain ⟨q, hq⟩ := Option.isSome_iff_exists.1 (hall f (by rw [Array.mem_toList_iff]; exact Array.mem_of_getElem? hk))
        simp [hq]
    obtain ⟨x, q, e1, e2, k⟩ := xfill_ok hp ha h
    refine ⟨x, .agg q, ?_, e2, k⟩
    rw [hplace] at e1
    have hm' : (fs.mapM fun f => (do pure (f.offset, ← sizeOf f.type) : Sem (Nat × Nat))).run P w = .ok (fs.toList.map fun f => (f.offset, ((tab f.type).map (·.size)).getD 0)).toArray w := by
      rw [Array.mapM_eq_mapM_toList]
      simp only [Sem.run_map, hm, Result.andThen_ok]
    simp only [Instr.build, Sem.run_bind, r, Result.andThen_ok, run_underlying hd, hm']
    rw [e1]
    rfl
  · rename_i n e hae
    rw [hae] at hd
    rw [opt_iff] at h
    obtain ⟨q, hq, h⟩ := h
    obtain ⟨x, u, e1, e2, k⟩ := xfill_ok hp ha h
    refine ⟨x, .agg u, ?_, e2, k⟩
    simp only [Instr.build, Sem.run_bind, r, Result.andThen_ok, run_underlying hd, run_sizeOf hT hq]
    rw [e1]
    rfl
  · exact h.elim

end
end Go.Proofs.YthpkehhghcpolaaDoor

namespace Go.Proofs.YthpkehhghcpolaaDoor
open Go.RowKit
set_option linter.unusedVariables false
set_option linter.unusedSimpArgs false

section
variable {P : Program} {w : World}

theorem mkElem_cells {s : Nat} {cs : List T} (hl : cs.length = s) (h1 : cs.all T.one = true) (hs : 1 ≤ s) : (mkElem s cs).cells = cs := by
  unfold mkElem
  split
  · rename_i c
    simp at h1
    exact T.cells_one h1
  · rfl

theorem vecd_cases {w : World} {M : Nat → Prop} {s : Nat} {l : List T} {v : Value} (h : RT w M (.vecd s l) v) : (l = [] ∧ v = .slice none 0 0) ∨ RT w M (.vec s l) v := by
  cases h with
  | vecd0 => exact .inl ⟨rfl, rfl⟩
  | vecd _ _ _ h => exact .inr h

theorem RA.cells0 {c H x v} (h : RA w c H x v) (hj : x ≠ .junk) (ht : ∀ l, x ≠ .tup l) : x.cells.length = v.cells.toList.length ∧
    ∀ (i : Nat) y u, x.cells[i]? = some y → v.cells.toList[i]? = some u → RA w c H y u := by
  have single : ∀ {x : AV} {v : Value}, RA w c H x v → x.cells = [x] → v.cells = #[v] → x.cells.length = v.cells.toList.length ∧
      ∀ (i : Nat) y u, x.cells[i]? = some y → v.cells.toList[i]? = some u → RA w c H y u := by
    intro x v h hx hv
    rw [hx, hv]
    refine ⟨rfl, fun i y u hi hu => ?_⟩
    cases i with
    | zero => simp at hi hu; subst hi hu; exact h
    | succ i => simp at hi
  cases h with
  | agg xs us hl _ hrr => exact ⟨hl, fun i y u hi hu => hrr i y u hi (by rw [← Array.getElem?_toList]; exact hu)⟩
  | t x v hx =>
    cases hx with
    | agg xs us hl _ hrr =>
      refine ⟨by simp only [AV.cells, List.length_map]; exact hl, fun i y u hi hu => ?_⟩
      simp only [AV.cells, List.getElem?_map, Option.map_eq_some_iff] at hi
      obtain ⟨z, hz, rfl⟩ := hi
      exact .t _ _ (hrr i z u hz (by rw [← Array.getElem?_toList]; exact hu))
    | bool => exact single (.t _ _ (.bool _)) rfl rfl
    | int => exact single (.t _ _ (.int _ _)) rfl rfl
    | str => exact single (.t _ _ (.str _)) rfl rfl
    | nilp => exact single (.t _ _ .nilp) rfl rfl
    | nils => exact single (.t _ _ .nils) rfl rfl
    | nilf => exact single (.t _ _ .nilf) rfl rfl
    | nili => exact single (.t _ _ .nili) rfl rfl
    | iptr cells b off vals h1 h2 h3 => exact single (.t _ _ (.iptr cells b off vals h1 h2 h3)) rfl rfl
    | vec s l b off cap sp vals h1 h2 h6 h3 h4 h5 => exact single (.t _ _ (.vec s l b off cap sp vals h1 h2 h6 h3 h4 h5)) rfl rfl
    | fn f a b x y h1 h2 h3 h4 => exact single (.t _ _ (.fn f a b x y h1 h2 h3 h4)) rfl rfl
    | ifc t x v h1 => exact single (.t _ _ (.ifc t x v h1)) rfl rfl
    | vecd0 s => exact single (.t _ _ (.vecd0 s)) rfl rfl
    | vecd s l v h =>
      have h' := RT.vecd s l v h
      cases h with | vec => exact single (.t _ _ h') rfl rfl
  | junk v => exact (hj rfl).elim
  | tup cs => exact (ht cs rfl).elim
  | fn f a b x y h1 h2 h3 h4 => exact single (.fn f a b x y h1 h2 h3 h4) rfl rfl
  | ifc t x v h1 => exact single (.ifc t x v h1) rfl rfl
  | ptr b g i o v blk hb hm hv => obtain ⟨a, rfl⟩ := hv; exact single (.ptr b g i o _ blk hb hm) rfl rfl
  | sl b g i m v blk hb hm hv => obtain ⟨a, p, q, rfl⟩ := hv; exact single (.sl b g i m _ blk hb hm) rfl rfl
  | emp ad => exact single (.emp ad) rfl rfl

theorem RParts.ev {c H c' H' w'} (ev : Ev w c H w' c' H') {p : List (Nat × AV)} {v : List (Nat × Value)} (h : RParts w c H p v) : RParts w' c' H' p v := by
  induction h with
  | nil => exact .nil
  | cons k x v r s h t ih => exact .cons k x v r s (h.ev ev) ih

theorem AV.cells_one {x : AV} (h : x.one = true) : x.cells = [x] := by
  cases x with
  | t x => rw [T.cells_t, T.cells_one h]; rfl
  | agg => simp [AV.one] at h
  | tup => simp [AV.one] at h
  | junk => simp [AV.one] at h
  | own => simp [AV.one] at h
  | _ => rfl

theorem mkElemA_cells {s : Nat} {cs : List AV} (h1 : cs.all AV.one = true) : (mkElemA s cs).cells = cs := by
  unfold mkElemA
  split
  · rename_i c
    simp at h1
    exact AV.cells_one h1
  · split
    · rename_i l hl
      rw [toTs_spec hl]
      rfl
    · rfl

theorem seqOf_get (l : List AV) (i : Nat) : (seqOf l).get i = l[i]? := by
  unfold seqOf
  split
  · rename_i l' hl
    rw [toTs_spec hl]
    simp [Sq.get]
  · rfl

theorem seqOf_length (l : List AV) : (seqOf l).length = l.length := by
  unfold seqOf
  split
  · rename_i l' hl
    rw [toTs_spec hl]
    simp [Sq.length]
  · rfl

/-- The elements of a slice literal: the array that the model fills. -/
theorem elems_ok {s : Nat} (hs1 : 1 ≤ s) : ∀ {parts : List (Nat × AV)} {vs : List (Nat × Value)} {c H n} {arr : Array Value} {l : List AV}, RParts w c H parts vs → elems s n parts = some l →
    (n + l.length) * s ≤ arr.size → ∃ q, Instr.fill (fun i => some (i * s, s)) arr vs = some q ∧ q.size = arr.size ∧ (∀ j, j < n * s → q[j]? = arr[j]?) ∧
      ∀ (i : Nat) x, l[i]? = some x → x.cells.length = s ∧ ∀ (j : Nat) y, x.cells[j]? = some y → ∃ v, q[(n + i) * s + j]? = some v ∧ y.one = true ∧ RA w c H y v ∧ v.oneCell' = true
  | [], vs, c, H, n, arr, l, hp, h, hfit => by
    simp [elems] at h
    subst h
    cases hp
    exact ⟨arr, rfl, rfl, fun _ _ => rfl, by simp⟩
  | (k, x) :: r, vs, c, H, n, arr, l, hp, h, hfit => by
    cases hp with | cons _ _ v _ us hx ht =>
    simp only [elems] at h
    split at h
    · rename_i l' hk hr
      cases h
      simp only [Bool.and_eq_true] at hk
      have hk0 := Nat.eq_of_beq_eq_true hk.1.1
      subst hk0
      have c1 := Nat.eq_of_beq_eq_true hk.1.2
      obtain ⟨cl, cr⟩ := hx.cells hk.2
      have hsz : v.cells.size = s := by omega
      have hfit1 : k * s + v.cells.size ≤ arr.size := by
        have : (k + 1) * s ≤ (k + (mkElemA s x.cells :: l').length) * s := Nat.mul_le_mul_right _ (by simp)
        rw [Nat.succ_mul] at this; omega
      have hfit2 : (k + 1 + l'.length) * s ≤ (put1 arr (k * s) v).size := by
        rw [put1_size, show k + 1 + l'.length = k + (l'.length + 1) by omega]
        simpa using hfit
      obtain ⟨q, q1, q2, q3, q4⟩ := elems_ok hs1 (arr := put1 arr (k * s) v) ht hr hfit2
      refine ⟨q, by rw [fill_cons (off := k * s) (size := s) rfl hsz hfit1]; exact q1, by rw [q2, put1_size], fun j hj => ?_, fun i y hi => ?_⟩
      · rw [q3 j (by rw [Nat.succ_mul]; omega), put1_get _ _ _ hfit1, if_neg (by omega)]
      · cases i with
        | zero =>
          simp at hi
          subst hi
          rw [mkElemA_cells hk.2]
          refine ⟨c1, fun j z hj => ?_⟩
          have hjs := lt_of_getElem? hj
          obtain ⟨u, hu⟩ := arr_get (a := v.cells) (i := j) (by omega)
          refine ⟨u, ?_, cr j z u hj hu⟩
          rw [Nat.add_zero, q3 (k * s + j) (by rw [Nat.succ_mul]; omega), put1_get _ _ _ hfit1, if_pos (by omega), show k * s + j - k * s = j by omega]
          exact hu
        | succ i =>
          simp at hi
          have := q4 i y hi
          rw [show k + 1 + i = k + (i + 1) by omega] at this
          exact this
    · cases h

theorem made_get (z : Array Value) (n k : Nat) (hk : k < n) (hz : 0 < z.size) : (madeCells z n)[k]? = z[k % z.size]? := by
  have : k % z.size < z.size := Nat.mod_lt _ hz
  simp [madeCells, hk, this]

theorem run_buildSlice {tab : Tab} (hT : TabOK P tab) {t : TypeId} {len : Nat} {e : TypeId} {z : TyI} {zs : List T} (hd : P.underlying t = some (.slice e)) (hz : tab e = some z) (hzs : z.zero = some zs) (c3 : len * z.size ≤ 16777216) (vs : Array (Nat × Value)) :
    ∃ arr0 : Array Value, arr0.size = len * z.size ∧ ∀ q, Instr.fill (fun i => some (i * z.size, z.size)) arr0 vs.toList = some q →
        (Instr.buildSlice t len vs).run P w = .ok (.slice (some ⟨w.heap.size, 0, none⟩) len len) (w.alloc (.cells q e)) := by
  obtain ⟨zv, r, hz', _⟩ := run_zero (w := w) hT hz hzs
  have hns : ¬ len * z.size > 16777216 := by omega
  have hsz := run_sizeOf hT hz w
  by_cases hn : len * z.size = 0
  · refine ⟨(Array.range (len * z.size)).map ((#[] : Array Value)[· % (#[] : Array Value).size]!), by simp, fun q hq => ?_⟩
    simp only [Instr.buildSlice, Sem.run_bind, run_underlying hd, Result.andThen_ok, hsz, show (2 : Nat) ^ 24 = 16777216 by decide, if_neg hns, Sem.run_pure, if_pos hn, Sem.run_ite, pure_bind]
    rw [hq]
    simp [newRow]
  · refine ⟨(Array.range (len * z.size)).map (zv.cells[· % zv.cells.size]!), by simp, fun q hq => ?_⟩
    simp only [Instr.buildSlice, Sem.run_bind, run_underlying hd, Result.andThen_ok, hsz, show (2 : Nat) ^ 24 = 16777216 by decide, if_neg hns, Sem.run_pure, if_neg hn, Sem.run_ite, r, pure_bind]
    rw [hq]
    simp [newRow]

theorem xbuildSlice_ok {tab : Tab} (hT : TabOK P tab) {t : TypeId} {len : Nat} {c H B} {parts : List (Nat × AV)} {vs : Array (Nat × Value)} {K : AV → AH → Prop} (hs : HS w c H B) (hp : RParts w c H parts vs.toList)
    (h : xbuildSlice tab t len parts H K) : MOut P (Instr.buildSlice t len vs) w c H B K := by
  unfold xbuildSlice at h
  rw [opt_iff] at h
  obtain ⟨y, hy, h⟩ := h
  have hd := (hT t y hy).d
  split at h
  · rename_i e he
    rw [he] at hd
    rw [opt_iff] at h
    obtain ⟨z, hz, h⟩ := h
    rw [opt_iff] at h
    obtain ⟨l, hel, h⟩ := h
    rw [ck_iff] at h
    obtain ⟨hc, h⟩ := h
    simp only [Bool.and_eq_true] at hc
    have c1 := Nat.eq_of_beq_eq_true hc.1.1.1
    have c2 := Nat.le_of_ble_eq_true hc.1.1.2
    have c3 := Nat.le_of_ble_eq_true hc.1.2
    obtain ⟨zs, hzs⟩ := Option.isSome_iff_exists.1 hc.2
    obtain ⟨arr0, ha0, hrun⟩ := run_buildSlice (P := P) (w := w) hT hd hz hzs c3 vs
    obtain ⟨q, q1, q2, q3, q4⟩ := elems_ok c2 (arr := arr0) hp hel (by rw [ha0, c1, Nat.zero_add]; exact Nat.le_refl _)
    have hmax : len ≤ maxLen := by
      have : len * 1 ≤ len * z.size := Nat.mul_le_mul_left _ c2
      simp [maxLen]; omega
    have hsl := seqOf_length l
    have hs2 := new_arr hs e z.size false 0 (seqOf l) q len (by rw [q2, ha0]) (by omega) hmax (fun i x hi => by rw [seqOf_get] at hi; have := q4 i x hi; rw [Nat.zero_add] at this; exact this)
    have ev2 := ev_new hs (.cells q e) (.arr e z.size false 0 (seqOf l))
    refine ⟨_, _, _, _, _, hrun q q1, ?_, hs2, ev2, below_new hs.hB _, h⟩
    refine .sl _ _ _ _ _ _ (new_at (w := w) (c := c) _).1 ⟨Nat.le_refl _, fun _ => ⟨by omega, .inr <| .inr ⟨by simp, w.heap.size, len, 0, (new_at (.arr e z.size false 0 (seqOf l))).2, rfl, ?_, Nat.le_refl _, by omega, .inr (by simp), fun _ => rfl⟩⟩⟩
    rw [rowSize_alloc, q2, ha0, Nat.zero_add]
  · exact h.elim

theorem xmakeSlice_ok {tab : Tab} (hT : TabOK P tab) {t : TypeId} {c H B a b u v} {K : AV → AH → Prop} (hs : HS w c H B) (ha : RA w c H a u) (hb : RA w c H b v)
    (h : xmakeSlice tab t a b H K) : MOut P (Instr.makeSlice t u v) w c H B K := by
  unfold xmakeSlice at h
  rw [opt_iff] at h
  obtain ⟨y, hy, h⟩ := h
  have hd := (hT t y hy).d
  split at h
  · rename_i e k1 n k2 cp he
    rw [he] at hd
    obtain rfl := ha.int
    obtain rfl := hb.int
    rw [opt_iff] at h
    obtain ⟨z, hz, h⟩ := h
    rw [opt_iff] at h
    obtain ⟨zs, hzs, h⟩ := h
    rw [ck_iff] at h
    obtain ⟨hc, h⟩ := h
    simp only [Bool.and_eq_true, decide_eq_true_eq] at hc
    obtain ⟨⟨⟨⟨⟨⟨h0, hnc⟩, hby⟩, hmx⟩, hs1⟩, hzl⟩, hz1⟩ := hc
    have hs1 := Nat.le_of_ble_eq_true hs1
    have hzl := Nat.eq_of_beq_eq_true hzl
    obtain ⟨zv, r, hz', i, hi, hiz, his, hib⟩ := run_zero (w := w) hT hz hzs
    obtain ⟨zk1, zk2⟩ := ofVs_ok (w := w) (M := c.M H) hz'
    have run := run_make (P := P) w t e i zv hd hi hiz k1 k2 n cp h0 hnc (by rw [hib, Int.mul_comm]; omega) (by omega)
    rw [his] at run
    have hzs0 : zv.cells.size = z.size := by simpa [hzl] using zk1.symm
    have hel := mkElem_cells hzl hz1 hs1
    have fin : ∀ (g m : Nat), n.toNat ≤ m → m ≤ cp.toNat → (g % 2 = 1 → m = cp.toNat) → K (.sl H.length g 0 n.toNat) (H ++ [.arr e z.size false g (.ts (List.replicate m (mkElem z.size zs)))]) → MOut P (Instr.makeSlice t (.int k1 n) (.int k2 cp)) w c H B K := by
      intro g m hm1 hm2 hm3 h
      have hs2 := new_arr hs e z.size false g (.ts (List.replicate m (mkElem z.size zs))) (madeCells zv.cells (cp.toNat * z.size)) cp.toNat (by rw [size_madeCells]) (by simp only [Sq.length, List.length_replicate]; exact ⟨hm2, hm3⟩) (by simp [maxLen]; omega)
        (Rowed.ts.2 fun k x hk => by
          have hkl := lt_of_getElem? hk
          simp at hkl
          have : x = mkElem z.size zs := by simp [hkl] at hk; exact hk.symm
          subst this
          rw [hel]
          refine ⟨hzl, fun j y' hj => ?_⟩
          have hjl := lt_of_getElem? hj
          have hlt : k * z.size + j < cp.toNat * z.size := by
            have : (k + 1) * z.size ≤ cp.toNat * z.size := Nat.mul_le_mul_right _ (by omega)
            rw [Nat.succ_mul] at this; omega
          obtain ⟨q, hq⟩ := arr_get (a := zv.cells) (i := j) (by omega)
          have hy1 : y'.one = true := by rw [List.all_eq_true] at hz1; exact hz1 y' (List.mem_of_getElem? hj)
          have rt := zk2 j y' q hj (by simpa using hq)
          refine ⟨q, ?_, hy1, rt, (rt.oneCell hy1).1⟩
          rw [made_get _ _ _ hlt (by omega), hzs0, Nat.mul_comm k, Nat.mul_add_mod, Nat.mod_eq_of_lt (by omega)]
          exact hq)
      have ev2 := ev_new hs (.cells (madeCells zv.cells (cp.toNat * z.size)) e) (.arr e z.size false g (.ts (List.replicate m (mkElem z.size zs))))
      refine ⟨_, _, _, _, _, run, ?_, hs2, ev2, below_new hs.hB _, h⟩
      refine .sl _ _ _ _ _ _ (new_at (w := w) (c := c) _).1 ⟨Nat.le_refl _, fun _ => ⟨by simp [Sq.length]; omega, .inr <| .inr ⟨by simp, w.heap.size, cp.toNat, 0, (new_at (.arr e z.size false g (.ts (List.replicate m (mkElem z.size zs))))).2, rfl, ?_, by omega, by simp [maxLen]; omega, .inr (by simp), fun _ => rfl⟩⟩⟩
      rw [rowSize_alloc, size_madeCells, Nat.zero_add]
    rw [br_iff] at h
    rcases h with ⟨_, h⟩ | ⟨_, h⟩
    · exact fin 1 cp.toNat (by omega) (Nat.le_refl _) (fun _ => rfl) h
    · exact fin 0 n.toNat (Nat.le_refl _) (by omega) (by omega) h
  · exact h.elim

/-! ### Conversions, len, append -/

theorem bytes_cells {bs : List UInt8} {i : Nat} {x : T} (h : (bs.map fun b => T.int .u8 (b.toNat : Int))[i]? = some x) : ∃ b, bs[i]? = some b ∧ x = .int .u8 (b.toNat : Int) := by
  simp only [List.getElem?_map, Option.map_eq_some_iff] at h
  obtain ⟨b, hb, rfl⟩ := h
  exact ⟨b, hb, rfl⟩

theorem strOfNums_map (bs : List UInt8) : (strOfNums (bs.map fun b => (b.toNat : Int))).data.toList = bs := by
  rw [strOfNums_data, List.map_map]
  have : ((fun n : Int => UInt8.ofNat n.toNat) ∘ fun b : UInt8 => (b.toNat : Int)) = id := by funext b; simp
  rw [this, List.map_id]

theorem xconvert_ok {tab : Tab} (hT : TabOK P tab) {src dst : TypeId} {c H B x v} {K : AV → Prop} (hs : HS w c H B) (h : xconvert tab src dst x H K) (hx : RA w c H x v) :
    ∃ y val, (convert src dst v).run P w = .ok val w ∧ RA w c H y val ∧ K y := by
  unfold xconvert at h
  rw [opt_iff] at h
  obtain ⟨y, hy, h⟩ := h
  rw [opt_iff] at h
  obtain ⟨z, hz, h⟩ := h
  have hd := (hT dst y hy).d
  have hsd := (hT src z hz).d
  split at h
  · rename_i k k' n he
    rw [he] at hd
    obtain rfl := hx.int
    exact ⟨_, _, by simp [convert, run_underlying hsd, run_underlying hd, Conv.intToInt], .t _ _ (.int _ _), stop_iff.1 h⟩
  · rename_i s he
    rw [he] at hd
    obtain ⟨bs, rfl, rfl⟩ := hx.str
    refine ⟨_, .string bs, ?_, .t _ _ (.str bs), h⟩
    simp only [convert, Sem.run_bind, run_underlying hsd, run_underlying hd, Result.andThen_ok]
    cases z.d <;> rfl
  · rename_i he
    rw [he] at hd
    cases hx with | t _ _ hx =>
    cases hx
    split at h
    · rename_i e hse
      rw [hse] at hsd
      rw [opt_iff] at h
      obtain ⟨q, hq, h⟩ := h
      split at h
      · rename_i hqe
        have hqd := (hT e q hq).d
        rw [hqe] at hqd
        exact ⟨_, .string ByteArray.empty, run_convert_bytes_nil w src e hsd hqd 0 0 dst hd, .t _ _ (.str ByteArray.empty), h⟩
      · exact h.elim
    · exact h.elim
  · rename_i s l he
    rw [he] at hd
    split at h
    · rename_i e hse
      rw [hse] at hsd
      rw [opt_iff] at h
      obtain ⟨q, hq, h⟩ := h
      split at h
      · rename_i hqe
        have hqd := (hT e q hq).d
        rw [hqe] at hqd
        rw [ck_iff] at h
        obtain ⟨hs1, bs, rfl, h⟩ := h
        have hs1 := Nat.eq_of_beq_eq_true hs1
        subst hs1
        cases hx with | t _ _ hx => cases hx with | vec _ _ b off cap sp vals hM hcap hsp hss hc hr =>
        by_cases hbs : bs = []
        · subst hbs
          refine ⟨_, .string ByteArray.empty, ?_, .t _ _ (.str ByteArray.empty), h⟩
          rw [run_convert_bytes_string w src dst e _ _ _ hsd hqd hd]
          have hl := run_loadCells_list (P := P) w ⟨b, off, sp⟩ [] (fun j v hj => by simp at hj)
          have hl : (loadCells ⟨b, off, sp⟩ 0).run P w = .ok #[] w := hl
          simp [Conv.bytesToString, hl]
        obtain rfl := hsp (fun e => hbs (by simpa using e))
        have run := run_convert_bytes_arg (P := P) w src e hsd hqd b off (bs.map fun b => T.int .u8 (b.toNat : Int)).length cap (bs.map fun b => (b.toNat : Int)) (by simp) (fun i hi => by
          simp at hi
          have hbi : (bs.map fun b => T.int .u8 (b.toNat : Int))[i]? = some (.int .u8 (bs[i].toNat : Int)) := by simp [hi]
          have h1 := (hc i _ 0 _ hbi rfl).1
          rw [Nat.mul_one, Nat.add_zero] at h1
          rw [h1]
          have hv : vals i 0 = .int .u8 (bs[i].toNat : Int) := by
            have := hr i _ 0 _ hbi rfl
            generalize vals i 0 = q at this
            cases this; rfl
          rw [hv]; simp [hi]) dst hd
        refine ⟨_, _, run, .t _ _ ?_, h⟩
        have e0 := strOfNums_map bs
        have := RT.str (w := w) (M := c.M H) (strOfNums (bs.map fun b => (b.toNat : Int)))
        rw [e0] at this
        exact this
      · exact h.elim
    · exact h.elim
  · rename_i s l he
    rw [he] at hd
    split at h
    · rename_i e hse
      rw [hse] at hsd
      rw [opt_iff] at h
      obtain ⟨q, hq, h⟩ := h
      split at h
      · rename_i hqe
        have hqd := (hT e q hq).d
        rw [hqe] at hqd
        rw [ck_iff] at h
        obtain ⟨hs1, bs, hbse, h⟩ := h
        have hs1 := Nat.eq_of_beq_eq_true hs1
        subst hs1
        cases hx with | t _ _ hx =>
        rcases vecd_cases hx with ⟨hl0, rfl⟩ | hx
        · obtain rfl : bs = [] := by rw [hl0] at hbse; simpa using hbse.symm
          exact ⟨_, .string ByteArray.empty, run_convert_bytes_nil w src e hsd hqd 0 0 dst hd, .t _ _ (.str ByteArray.empty), h⟩
        subst hbse
        cases hx with | vec _ _ b off cap sp vals hM hcap hsp hss hc hr =>
        by_cases hbs : bs = []
        · subst hbs
          refine ⟨_, .string ByteArray.empty, ?_, .t _ _ (.str ByteArray.empty), h⟩
          rw [run_convert_bytes_string w src dst e _ _ _ hsd hqd hd]
          have hl := run_loadCells_list (P := P) w ⟨b, off, sp⟩ [] (fun j v hj => by simp at hj)
          have hl : (loadCells ⟨b, off, sp⟩ 0).run P w = .ok #[] w := hl
          simp [Conv.bytesToString, hl]
        obtain rfl := hsp (fun e => hbs (by simpa using e))
        have run := run_convert_bytes_arg (P := P) w src e hsd hqd b off (bs.map fun b => T.int .u8 (b.toNat : Int)).length cap (bs.map fun b => (b.toNat : Int)) (by simp) (fun i hi => by
          simp at hi
          have hbi : (bs.map fun b => T.int .u8 (b.toNat : Int))[i]? = some (.int .u8 (bs[i].toNat : Int)) := by simp [hi]
          have h1 := (hc i _ 0 _ hbi rfl).1
          rw [Nat.mul_one, Nat.add_zero] at h1
          rw [h1]
          have hv : vals i 0 = .int .u8 (bs[i].toNat : Int) := by
            have := hr i _ 0 _ hbi rfl
            generalize vals i 0 = q at this
            cases this; rfl
          rw [hv]; simp [hi]) dst hd
        refine ⟨_, _, run, .t _ _ ?_, h⟩
        have e0 := strOfNums_map bs
        have := RT.str (w := w) (M := c.M H) (strOfNums (bs.map fun b => (b.toNat : Int)))
        rw [e0] at this
        exact this
      · exact h.elim
    · exact h.elim
  · rename_i b g i n he
    rw [he] at hd
    split at h
    · rename_i e hse
      rw [hse] at hsd
      rw [opt_iff] at h
      obtain ⟨q, hq, h⟩ := h
      split at h
      · rename_i hqe
        have hqd := (hT e q hq).d
        rw [hqe] at hqd
        cases hx with | sl _ _ _ _ _ blk hb hm hv =>
        rw [hb] at h
        cases blk with
        | dead => exact h.elim
        | box => exact h.elim
        | iter => exact h.elim
        | arr e' s z' gen l =>
         cases l with
         | vs l => exact h.elim
         | ts l =>
          simp only at h
          rw [ck_iff] at h
          obtain ⟨hcc, bs, hbs, h⟩ := h
          simp only [Bool.and_eq_true] at hcc
          have hg1 := Nat.eq_of_beq_eq_true hcc.1
          have hs1 := Nat.eq_of_beq_eq_true hcc.2
          subst hs1
          obtain ⟨hlen, hm⟩ := hm.2 hg1
          have hlen : i + n ≤ l.length := hlen
          have hbl : bs.length = n := by have := congrArg List.length hbs; simp at this; omega
          rcases hm with ⟨h1, h2, rfl⟩ | ⟨z1, h2, ad, rfl⟩ | ⟨hne, cb, cap, off, hg, rfl, hsz, hcap, hmx, hoff, hoff0⟩
          · have h2 : l.length = 0 := h2
            have : bs = [] := List.eq_nil_of_length_eq_zero (by omega)
            subst this
            exact ⟨_, .string ByteArray.empty, run_convert_bytes_nil w src e hsd hqd 0 0 dst hd, .t _ _ (.str ByteArray.empty), h⟩
          · have h2 : l.length = 0 := h2
            have : bs = [] := List.eq_nil_of_length_eq_zero (by omega)
            subst this
            refine ⟨_, .string ByteArray.empty, ?_, .t _ _ (.str ByteArray.empty), h⟩
            rw [run_convert_bytes_string w src dst e _ _ _ hsd hqd hd]
            have hl := run_loadCells_list (P := P) w ad [] (fun j v hj => by simp at hj)
            have hl : (loadCells ad 0).run P w = .ok #[] w := hl
            simp [Conv.bytesToString, hl]
          · obtain ⟨arr, cap', h1, h2, h3, h4, h5⟩ := hs.arr b cb e' _ z' gen _ hb hg
            have run := run_convert_bytes_arg (P := P) w src e hsd hqd cb off n cap (bs.map fun b => (b.toNat : Int)) (by simpa using hbl) (fun k hk => by
              have hki : k < bs.length := by omega
              have hbi : ((l.drop i).take n)[k]? = some (.int .u8 (bs[k].toNat : Int)) := by rw [hbs]; simp [hki]
              obtain ⟨u, hu, _, rt, _⟩ := (Rowed.ts.1 h5 _ _ (getElem?_take_drop hbi).2).2 0 _ rfl
              have hoff' : off = i * 1 := hoff.resolve_left (by omega)
              rw [cell_row h1, show off + k = (i + k) * 1 + 0 by omega, hu]
              cases rt
              simp [hki]) dst hd
            refine ⟨_, _, run, .t _ _ ?_, h⟩
            have e0 := strOfNums_map bs
            have := RT.str (w := w) (M := c.M H) (strOfNums (bs.map fun b => (b.toNat : Int)))
            rw [e0] at this
            exact this
      · exact h.elim
    · exact h.elim
  · exact h.elim

theorem lenA_ok {c H x v n} (hx : RA w c H x v) (h : lenA H x = some n) : (∃ s, v = .string s ∧ s.size = n ∧ isStrA x = true) ∨ (∃ a m, v = .slice a n m ∧ isStrA x = false) := by
  unfold lenA at h
  split at h
  · cases h
    obtain ⟨s, rfl, rfl⟩ := hx.str
    exact .inl ⟨s, rfl, rfl, rfl⟩
  · cases h
    cases hx with | t _ _ hx => cases hx with | vec => exact .inr ⟨_, _, rfl, rfl⟩
  · cases h
    cases hx with | t _ _ hx => cases hx with
    | vecd0 => exact .inr ⟨_, _, rfl, rfl⟩
    | vecd _ _ _ hx => cases hx with | vec => exact .inr ⟨_, _, rfl, rfl⟩
  · cases h
    cases hx with | t _ _ hx => cases hx; exact .inr ⟨_, _, rfl, rfl⟩
  · cases hx with | sl _ _ _ _ _ blk hb hm hv =>
    rw [hb] at h
    cases blk with
    | dead => cases h
    | box => cases h
    | iter => cases h
    | arr e s z gen l =>
      simp only at h
      split at h
      · rename_i hg
        cases h
        obtain ⟨hlen, hm⟩ := hm.2 (Nat.eq_of_beq_eq_true hg)
        rcases hm with ⟨h1, h2, rfl⟩ | ⟨z1, h2, ad, rfl⟩ | ⟨hne, cb, cap, off, _, rfl, _⟩
        · have : n = 0 := by omega
          subst this
          exact .inr ⟨_, _, rfl, rfl⟩
        · have : n = 0 := by omega
          subst this
          exact .inr ⟨_, _, rfl, rfl⟩
        · exact .inr ⟨_, _, rfl, rfl⟩
      · cases h
  · cases h
    cases hx; exact .inr ⟨_, _, rfl, rfl⟩
  · cases h

theorem xlen_ok {tab : Tab} (hT : TabOK P tab) {t : TypeId} {c H x v} {K : AV → Prop} (h : xlen tab t H x K) (hx : RA w c H x v) (ty : TypeId) :
    ∃ y val, (Builtin.len_ #[t] ty #[v]).run P w = .ok val w ∧ RA w c H y val ∧ K y := by
  unfold xlen at h
  rw [opt_iff] at h
  obtain ⟨y, hy, h⟩ := h
  have hd := (hT t y hy).d
  split at h
  · rename_i n e he
    rw [he] at hd
    refine ⟨_, .int .i64 n, ?_, .t _ _ (.int _ _), h⟩
    simp only [Builtin.len_, Sem.run_bind]
    simp [run_underlying hd, goInt]
  · rw [ck_iff] at h
    obtain ⟨hc, h⟩ := h
    rw [opt_iff] at h
    obtain ⟨n, hn, h⟩ := h
    simp only [Bool.and_eq_true] at hc
    rcases lenA_ok hx hn with ⟨s, rfl, rfl, hs⟩ | ⟨a, m, rfl, hs⟩
    · have he : y.d = .string := by
        cases hyd : y.d <;> rw [hyd] at hc <;> first | rfl | (simp [lenTy, isStrD, hs] at hc)
      rw [he] at hd
      exact ⟨_, .int .i64 s.size, by simp [Builtin.len_, run_underlying hd, goInt], .t _ _ (.int _ _), h⟩
    · obtain ⟨e, he⟩ : ∃ e, y.d = .slice e := by
        cases hyd : y.d <;> rw [hyd] at hc <;> simp [lenTy, isStrD, hs] at hc
        exact ⟨_, rfl⟩
      rw [he] at hd
      exact ⟨_, .int .i64 n, by simp [Builtin.len_, run_underlying hd, goInt], .t _ _ (.int _ _), h⟩

theorem xminmax_ok {c H x y u v} {mx : Bool} {K : AV → Prop} (h : xminmax mx x y K) (hx : RA w c H x u) (hy : RA w c H y v) (at_ : Array TypeId) (ty : TypeId) :
    ∃ z val, (match mx with | true => Builtin.max_ at_ ty #[u, v] | false => Builtin.min_ at_ ty #[u, v]).run P w = .ok val w ∧ RA w c H z val ∧ K z := by
  unfold xminmax at h
  split at h
  · rename_i k a k' b
    obtain rfl := hx.int
    obtain rfl := hy.int
    rw [ck_iff] at h
    obtain ⟨hk, h⟩ := h
    cases mx
    · refine ⟨_, .int k (min a b), ?_, .t _ _ (.int _ _), h⟩
      have : (if b < a then b else a) = min a b := by omega
      simp [Builtin.min_, Builtin.min2, this]
    · refine ⟨_, .int k (max a b), ?_, .t _ _ (.int _ _), h⟩
      have : (if a < b then b else a) = max a b := by omega
      simp [Builtin.max_, Builtin.max2, this]
  · exact h.elim

end
end Go.Proofs.YthpkehhghcpolaaDoor

namespace Go.Proofs.YthpkehhghcpolaaDoor
open Go.RowKit
set_option linter.unusedVariables false
set_option linter.unusedSimpArgs false

section
variable {P : Program} {w : World}

/-- Data that stand one after the other, as a list of values. -/
theorem rows_values {s : Nat} (hs : 1 ≤ s) {R : AV → Value → Prop} {l : Sq} {b off : Nat} (vals : Nat → Nat → Value) (hl : ∀ (i : Nat) x, l.get i = some x → x.cells.length = s)
    (hc : ∀ (i : Nat) x (j : Nat) y, l.get i = some x → x.cells[j]? = some y → w.cell? ⟨b, off + i * s + j, none⟩ = some (vals i j) ∧ y.one = true ∧ R y (vals i j) ∧ (vals i j).oneCell' = true) :
    ∃ news : List Value, news.length = l.length * s ∧ (∀ (k : Nat) v, news[k]? = some v → w.cell? (Addr.add ⟨b, off, none⟩ k) = some v) ∧ (∀ u ∈ news, u.oneCell' = true) ∧
      ∀ (i : Nat) x, l.get i = some x → ∀ (j : Nat) y, x.cells[j]? = some y → ∃ v, news[i * s + j]? = some v ∧ y.one = true ∧ R y v ∧ v.oneCell' = true := by
  have at_ : ∀ k, k < l.length * s → ∃ x y, l.get (k / s) = some x ∧ x.cells[k % s]? = some y := by
    intro k hk
    have hd : k / s < l.length := Nat.div_lt_of_lt_mul (by rw [Nat.mul_comm]; exact hk)
    obtain ⟨x, hx⟩ := Sq.get_of_lt hd
    have hm : k % s < x.cells.length := by rw [hl _ x hx]; exact Nat.mod_lt _ hs
    exact ⟨x, x.cells[k % s], hx, List.getElem?_eq_getElem hm⟩
  refine ⟨(List.range (l.length * s)).map fun k => vals (k / s) (k % s), by simp, fun k v hk => ?_, fun u hu => ?_, fun i x hi j y hj => ?_⟩
  · simp only [List.getElem?_map, Option.map_eq_some_iff] at hk
    obtain ⟨q, hq, rfl⟩ := hk
    have hlt := lt_of_getElem? hq
    rw [List.length_range] at hlt
    rw [List.getElem?_range hlt] at hq
    cases hq
    obtain ⟨x, y, e1, e2⟩ := at_ k hlt
    rw [Addr.add_lit]
    have := (hc _ x _ _ e1 e2).1
    rw [show off + k / s * s + k % s = off + k by have := Nat.div_add_mod k s; rw [Nat.mul_comm]; omega] at this
    exact this
  · simp only [List.mem_map, List.mem_range] at hu
    obtain ⟨k, hk, rfl⟩ := hu
    obtain ⟨x, y, e1, e2⟩ := at_ k hk
    exact (hc _ x _ _ e1 e2).2.2.2
  · have hjs : j < s := by have := lt_of_getElem? hj; have := hl i x hi; omega
    have hil := Sq.get_lt hi
    have hlt : i * s + j < l.length * s := by
      have : (i + 1) * s ≤ l.length * s := Nat.mul_le_mul_right _ hil
      rw [Nat.succ_mul] at this; omega
    obtain ⟨_, h1, h2⟩ := hc i x j y hi hj
    refine ⟨vals i j, ?_, h1, h2⟩
    have hd : (i * s + j) / s = i := by rw [Nat.mul_comm, Nat.mul_add_div (by omega), Nat.div_eq_of_lt hjs]; rfl
    have hm : (i * s + j) % s = j := by rw [Nat.mul_comm, Nat.mul_add_mod, Nat.mod_eq_of_lt hjs]
    simp only [List.getElem?_map, List.getElem?_range hlt, Option.map_some, hd, hm]

/-- Values hold data, element by element. -/
def Cont (w : World) (c : Cx) (H : AH) (s : Nat) (l : Sq) (vs : List Value) : Prop :=
  ∀ (i : Nat) x, l.get i = some x → x.cells.length = s ∧ ∀ (j : Nat) y, x.cells[j]? = some y → ∃ v, vs[i * s + j]? = some v ∧ y.one = true ∧ RA w c H y v ∧ v.oneCell' = true

theorem ts_get {l : List T} {i : Nat} {x : AV} (h : (Sq.ts l).get i = some x) : ∃ e, l[i]? = some e ∧ x = .t e := by
  simp only [Sq.get, Option.map_eq_some_iff] at h
  obtain ⟨e, h, rfl⟩ := h
  exact ⟨e, h, rfl⟩

theorem t_cell {e : T} {j : Nat} {y : AV} (h : (AV.t e).cells[j]? = some y) : ∃ c, e.cells[j]? = some c ∧ y = .t c := by
  rw [T.cells_t] at h
  simp only [List.getElem?_map, Option.map_eq_some_iff] at h
  obtain ⟨c, h, rfl⟩ := h
  exact ⟨c, h, rfl⟩

theorem cont_nil {w c H s} {l : Sq} {vs : List Value} (h : l.length = 0) : Cont w c H s l vs := fun i x hi => by
  have := Sq.get_lt hi; omega

/-- What is appended. -/
theorem appended_ok {c H B x v s} {news : Sq} (hs : HS w c H B) (hx : RA w c H x v) (hs1 : 1 ≤ s) (h : appended H s x = some news) :
    ∃ vs, Reads P w s news.length v vs ∧ Cont w c H s news vs := by
  unfold appended at h
  split at h
  · rename_i l
    split at h
    · rename_i hs'
      cases h
      have hs' := Nat.eq_of_beq_eq_true hs'
      subst hs'
      obtain ⟨bs, rfl, rfl⟩ := hx.str
      refine ⟨_, by simp only [Sq.length]; rw [List.length_map]; exact reads_str w bs, fun i y hi => ?_⟩
      obtain ⟨y, hi', rfl⟩ := ts_get hi
      obtain ⟨b, hb, rfl⟩ := bytes_cells hi'
      refine ⟨rfl, fun j z hj => ?_⟩
      obtain ⟨z, hj', rfl⟩ := t_cell hj
      have hj0 : j = 0 := by have := lt_of_getElem? hj'; simp [T.cells] at this; exact this
      subst hj0
      simp [T.cells] at hj'
      subst hj'
      exact ⟨.int .u8 (b.toNat : Int), by simp only [List.getElem?_map, Nat.mul_one, Nat.add_zero, hb, Option.map_some], rfl, .t _ _ (.int _ _), rfl⟩
    · cases h
  · rename_i s' l
    split at h
    · rename_i hs'
      cases h
      have hs' := Nat.eq_of_beq_eq_true hs'
      subst hs'
      cases hx with | t _ _ hx => cases hx with | vec _ _ b off cap sp vals hM hcap hsp hss hc hr =>
      by_cases hl0 : l = []
      · subst hl0
        exact ⟨[], reads_empty w _ _, cont_nil rfl⟩
      obtain rfl := hsp hl0
      have hss' : ∀ (i : Nat) x, (Sq.ts l).get i = some x → x.cells.length = s := fun i x hi => by
        obtain ⟨e, hi', rfl⟩ := ts_get hi
        rw [T.cells_t, List.length_map]; exact hss i e hi'
      obtain ⟨vs, h1, h2, h3, h4⟩ := rows_values (w := w) hs1 (R := RA w c H) (l := .ts l) vals hss' (fun i x j y hi hj => by
        obtain ⟨e, hi', rfl⟩ := ts_get hi
        obtain ⟨d, hj', rfl⟩ := t_cell hj
        obtain ⟨k1, k2⟩ := hc i e j d hi' hj'
        have k3 := hr i e j d hi' hj'
        exact ⟨k1, k2, .t _ _ k3, (k3.oneCell k2).1⟩)
      exact ⟨vs, reads_slice w h1 h2 h3, fun i x hi => ⟨hss' i x hi, h4 i x hi⟩⟩
    · cases h
  · rename_i s' l
    split at h
    · rename_i hs'
      cases h
      have hs' := Nat.eq_of_beq_eq_true hs'
      subst hs'
      cases hx with | t _ _ hx =>
      rcases vecd_cases hx with ⟨rfl, rfl⟩ | hx
      · exact ⟨[], reads_nil w, cont_nil rfl⟩
      cases hx with | vec _ _ b off cap sp vals hM hcap hsp hss hc hr =>
      by_cases hl0 : l = []
      · subst hl0
        exact ⟨[], reads_empty w _ _, cont_nil rfl⟩
      obtain rfl := hsp hl0
      have hss' : ∀ (i : Nat) x, (Sq.ts l).get i = some x → x.cells.length = s := fun i x hi => by
        obtain ⟨e, hi', rfl⟩ := ts_get hi
        rw [T.cells_t, List.length_map]; exact hss i e hi'
      obtain ⟨vs, h1, h2, h3, h4⟩ := rows_values (w := w) hs1 (R := RA w c H) (l := .ts l) vals hss' (fun i x j y hi hj => by
        obtain ⟨e, hi', rfl⟩ := ts_get hi
        obtain ⟨d, hj', rfl⟩ := t_cell hj
        obtain ⟨k1, k2⟩ := hc i e j d hi' hj'
        have k3 := hr i e j d hi' hj'
        exact ⟨k1, k2, .t _ _ k3, (k3.oneCell k2).1⟩)
      exact ⟨vs, reads_slice w h1 h2 h3, fun i x hi => ⟨hss' i x hi, h4 i x hi⟩⟩
    · cases h
  · cases h
    cases hx with | t _ _ hx =>
    cases hx
    exact ⟨[], reads_nil w, cont_nil rfl⟩
  · rename_i b g i n
    cases hx with | sl _ _ _ _ _ blk hb hm hv =>
    rw [hb] at h
    cases blk with
    | dead => cases h
    | box => cases h
    | iter => cases h
    | arr e s' z gen l =>
      simp only at h
      split at h
      · rename_i hcc
        cases h
        simp only [Bool.and_eq_true] at hcc
        have hs' := Nat.eq_of_beq_eq_true hcc.2
        subst hs'
        obtain ⟨hlen, hm⟩ := hm.2 (Nat.eq_of_beq_eq_true hcc.1)
        have hnl : (l.part i n).length = n := by rw [Sq.part_length]; omega
        rcases hm with ⟨h1, h2, rfl⟩ | ⟨z1, h2, ad, rfl⟩ | ⟨hne, cb, cap, off, hg, rfl, hsz, hcap, hmx, hoff, hoff0⟩
        · have hn0 : n = 0 := by omega
          subst hn0
          rw [hnl]
          exact ⟨[], reads_nil w, cont_nil hnl⟩
        · have hn0 : n = 0 := by omega
          subst hn0
          rw [hnl]
          exact ⟨[], reads_empty w _ _, cont_nil hnl⟩
        · obtain ⟨arr, cap', h1, h2, h3, h4, h5⟩ := hs.arr b cb e _ z gen l hb hg
          have hget : ∀ (k : Nat) x, (l.part i n).get k = some x → l.get (i + k) = some x := fun k x hk => by
            rw [Sq.part_get] at hk
            split at hk
            · exact hk
            · cases hk
          have hss : ∀ (k : Nat) x, (l.part i n).get k = some x → x.cells.length = s := fun k x hk => (h5 _ x (hget k x hk)).1
          by_cases hn0 : n = 0
          · subst hn0
            rw [hnl]
            exact ⟨[], reads_empty w _ _, cont_nil hnl⟩
          · have hoff' : off = i * s := hoff.resolve_left (by omega)
            obtain ⟨vs, k1, k2, k3, k4⟩ := rows_values (w := w) hs1 (R := RA w c H) (l := l.part i n) (b := cb) (off := off) (fun k j => arr.getD ((i + k) * s + j) undef) hss (fun k x j y hk hj => by
              obtain ⟨u, hu, q1, q2, q3⟩ := (h5 _ x (hget k x hk)).2 j y hj
              refine ⟨?_, q1, by simp only [Array.getD_eq_getD_getElem?, hu, Option.getD_some]; exact q2, by simp only [Array.getD_eq_getD_getElem?, hu, Option.getD_some]; exact q3⟩
              rw [cell_row h1, show off + k * s + j = (i + k) * s + j by rw [hoff', Nat.add_mul], hu]
              simp [Array.getD_eq_getD_getElem?, hu])
            rw [hnl]
            rw [hnl] at k1
            exact ⟨vs, reads_slice w k1 k2 k3, fun k x hk => ⟨hss k x hk, k4 k x hk⟩⟩
      · cases h
  · cases h
    cases hx
    exact ⟨[], reads_empty w _ _, cont_nil rfl⟩
  · cases h

theorem cont_append {c H} {s : Nat} {l1 l2 : Sq} {v1 v2 : List Value} (h1 : Cont w c H s l1 v1) (h2 : Cont w c H s l2 v2) (hl : v1.length = l1.length * s) : Cont w c H s (l1.app l2) (v1 ++ v2) := by
  intro i x hi
  rw [Sq.app_get] at hi
  by_cases hlt : i < l1.length
  · rw [if_pos hlt] at hi
    obtain ⟨a, b⟩ := h1 i x hi
    refine ⟨a, fun j y hj => ?_⟩
    obtain ⟨v, hv, r⟩ := b j y hj
    exact ⟨v, by rw [List.getElem?_append_left (lt_of_getElem? hv)]; exact hv, r⟩
  · rw [if_neg hlt] at hi
    obtain ⟨a, b⟩ := h2 _ x hi
    refine ⟨a, fun j y hj => ?_⟩
    obtain ⟨v, hv, r⟩ := b j y hj
    refine ⟨v, ?_, r⟩
    have e : i * s + j = v1.length + ((i - l1.length) * s + j) := by
      rw [hl, ← Nat.add_assoc, ← Nat.add_mul, show l1.length + (i - l1.length) = i by omega]
    rw [e, List.getElem?_append_right (by omega), show v1.length + ((i - l1.length) * s + j) - v1.length = (i - l1.length) * s + j by omega]
    exact hv

/-- Values at the head of an array. -/
theorem cont_array {c H} {s : Nat} {l : Sq} {vs : List Value} {arr : Array Value} (h : Cont w c H s l vs) (ha : ∀ (k : Nat) v, vs[k]? = some v → arr[k]? = some v) : Rowed w c H s l arr := by
  intro i x hi
  obtain ⟨a, b⟩ := h i x hi
  refine ⟨a, fun j y hj => ?_⟩
  obtain ⟨v, hv, r⟩ := b j y hj
  exact ⟨v, ha _ _ hv, r⟩

/-- An empty row, told in another way. -/
theorem empty_arr {c H B} (hs : HS w c H B) {b e s : Nat} {z : Bool} {g g' : Nat} {l l' : Sq} (hgg : g ≤ g') (hg2 : g' = g ∨ g' % 2 = 0) (hb : H[b]? = some (.arr e s z g l)) (h0 : l.length = 0) (h0' : l'.length = 0) :
    Ev w c H w c (H.set b (.arr e s z g' l')) ∧ HS w c (H.set b (.arr e s z g' l')) B := by
  have hlt := lt_of_getElem? hb
  have ev : Ev w c H w c (H.set b (.arr e s z g' l')) := by
    refine ⟨rfl, Nat.le_refl _, fun i bk hi => ?_, fun cb hm => ?_, fun _ _ _ => rfl, fun _ _ _ _ h => h⟩
    · by_cases h : b = i
      · subst h
        rw [hb] at hi; cases hi
        exact ⟨.arr e s z g' l', by simp [hlt], rfl, rfl, rfl, by omega, hgg, fun _ => ⟨by omega, fun _ h => ⟨h, rfl⟩⟩⟩
      · refine ⟨bk, by rw [List.getElem?_set_ne h]; exact hi, ?_⟩
        cases bk with
        | dead => trivial
        | box cs => exact ⟨rfl, fun _ h => h⟩
        | iter s p => exact ⟨rfl, fun _ h => h⟩
        | arr => exact ⟨rfl, rfl, rfl, Nat.le_refl _, Nat.le_refl _, fun _ => ⟨rfl, fun _ h => ⟨h, rfl⟩⟩⟩
    · rcases hm with ⟨i, bk, hi, hl, hg⟩
      · by_cases h : b = i
        · subst h
          exact .inl ⟨b, _, hb, rfl, hg⟩
        · rw [List.getElem?_set_ne h] at hi
          exact .inl ⟨i, bk, hi, hl, hg⟩
  refine ⟨ev, hs.keep ev hs.inj hs.base (fun i cb h => by have := hs.dom i cb h; simpa using this) (fun i cb cs hi hg => ?_) (fun i cb e1 s1 z1 g1 l1 hi hg => ?_) (fun i cb s1 p1 hi hg => ?_)⟩
  · by_cases h : b = i
    · subst h; simp [hlt] at hi
    · rw [List.getElem?_set_ne h] at hi; exact .inl ⟨hi, hg, rfl⟩
  · by_cases h : b = i
    · subst h
      simp [hlt] at hi
      obtain ⟨rfl, rfl, rfl, rfl, rfl⟩ := hi
      obtain ⟨arr, cap, a1, a2, a3, a4, a5⟩ := hs.arr b cb e s z g l hb hg
      exact .inr ⟨arr, cap, a1, a2, by omega, a4, fun k x hk => by have := Sq.get_lt hk; omega⟩
    · rw [List.getElem?_set_ne h] at hi; exact .inl ⟨hi, hg, rfl⟩
  · by_cases h : b = i
    · subst h; simp [hlt] at hi
    · rw [List.getElem?_set_ne h] at hi; exact .inl ⟨hi, hg, rfl⟩

theorem fitsRow_spec {n bytes : Nat} (h : fitsRow n bytes = true) : n ≤ 9223372036854775807 ∧ (n * bytes ≤ 140737488355328 ∨ (n + n / 4 + 192) * bytes ≤ 281474976710656) := by simpa [fitsRow] using h

theorem grown_array {olds vs : List Value} {z : Array Value} {n : Nat} : (∀ (k : Nat) v, (olds ++ vs)[k]? = some v → (olds.toArray ++ vs.toArray ++ Builtin.zeroCells z n)[k]? = some v) := by
  intro k v hk
  have hlt := lt_of_getElem? hk
  rw [Array.getElem?_append_left (by simpa using hlt)]
  rw [List.append_toArray, List.getElem?_toArray]
  exact hk

/-- A row that the model has laid anew: a new block of the walk's own. -/
theorem app_new {tab : Tab} {c H B} (hs : HS w c H B) (e s : Nat) (z : Bool) {news : Sq} {vs : List Value} (hc : Cont w c H s news vs) (cap : Nat) (arr : Array Value) (ha : ∀ (k : Nat) v, vs[k]? = some v → arr[k]? = some v)
    (hsz : arr.size = cap * s) (hcap : news.length ≤ cap) (hm : cap ≤ maxLen) (hne : ¬ news.length = 0) :
    RA (w.drew.alloc (.cells arr e)) (c.new H.length w.heap.size) (H ++ [.arr e s z 0 news]) (.sl H.length 0 0 news.length) (.slice (some ⟨w.heap.size, 0, none⟩) news.length cap) ∧
    HS (w.drew.alloc (.cells arr e)) (c.new H.length w.heap.size) (H ++ [.arr e s z 0 news]) B ∧
    Ev w c H (w.drew.alloc (.cells arr e)) (c.new H.length w.heap.size) (H ++ [.arr e s z 0 news]) ∧ Below B w (w.drew.alloc (.cells arr e)) := by
  have hsd : HS w.drew c H B := hs.same rfl
  have evd : Ev w c H w.drew c H := ev_same (w' := w.drew) (w := w) rfl c H
  have hcd : Cont w.drew c H s news vs := fun i x hi => ⟨(hc i x hi).1, fun j y hj => by
    obtain ⟨v, h1, h2, h3, h4⟩ := (hc i x hi).2 j y hj
    exact ⟨v, h1, h2, h3.ev evd, h4⟩⟩
  have hs2 := new_arr hsd e s z 0 news arr cap hsz ⟨hcap, by omega⟩ hm (cont_array hcd ha)
  have ev2 := ev_new hsd (.cells arr e) (.arr e s z 0 news)
  refine ⟨?_, hs2, evd.trans ev2, below_drew.trans (below_new hsd.hB _)⟩
  refine .sl _ _ _ _ _ (.arr e s z 0 news) getElem?_snoc_eq ⟨Nat.le_refl _, fun _ => ⟨by omega, .inr <| .inr ⟨fun hh => hne hh.2, w.heap.size, cap, 0, by simp [Cx.new], rfl, ?_, hcap, by omega, .inr (by simp), fun _ => rfl⟩⟩⟩
  have := rowSize_alloc w.drew arr e
  rw [show w.drew.heap.size = w.heap.size from rfl] at this
  rw [this, hsz, Nat.zero_add]

/-- A row of which a part is put anew. -/
theorem rowed_put {c H} {s i : Nat} {l news : Sq} {vs : List Value} {arr : Array Value} (hr : Rowed w c H s l arr) (hc : Cont w c H s news vs) (hvl : vs.length = news.length * s) (hi : i + news.length ≤ l.length) (hsz : l.length * s ≤ arr.size) :
    Rowed w c H s (l.put i news) (arr.toList.take (i * s) ++ vs ++ arr.toList.drop (i * s + vs.length)).toArray := by
  have hfit : i * s + vs.length ≤ arr.size := by
    have : (i + news.length) * s ≤ l.length * s := Nat.mul_le_mul_right _ hi
    rw [Nat.add_mul] at this
    omega
  intro k x hk
  rw [Sq.put_get hi] at hk
  have old : ∀ x, l.get k = some x → (k < i ∨ i + news.length ≤ k) → x.cells.length = s ∧ ∀ (j : Nat) y, x.cells[j]? = some y →
      ∃ v, (arr.toList.take (i * s) ++ vs ++ arr.toList.drop (i * s + vs.length)).toArray[k * s + j]? = some v ∧ y.one = true ∧ RA w c H y v ∧ v.oneCell' = true := by
    intro x hx hk
    obtain ⟨h1, h2⟩ := hr k x hx
    refine ⟨h1, fun j y hj => ?_⟩
    obtain ⟨v, b1, b2⟩ := h2 j y hj
    have hjl := lt_of_getElem? hj
    refine ⟨v, ?_, b2⟩
    rw [seg_get hfit, if_neg ?_]
    · exact b1
    · rintro ⟨c1, c2⟩
      rcases hk with hk | hk
      · have : (k + 1) * s ≤ i * s := Nat.mul_le_mul_right _ (by omega)
        rw [Nat.succ_mul] at this; omega
      · have : (i + news.length) * s ≤ k * s := Nat.mul_le_mul_right _ hk
        rw [Nat.add_mul] at this; omega
  split at hk
  · rename_i h1; exact old x hk (.inl h1)
  · split at hk
    · rename_i h1 h2
      obtain ⟨a1, a2⟩ := hc (k - i) x hk
      refine ⟨a1, fun j y hj => ?_⟩
      obtain ⟨v, b1, b2⟩ := a2 j y hj
      have hjl := lt_of_getElem? hj
      refine ⟨v, ?_, b2⟩
      have hlt := lt_of_getElem? b1
      have e : k * s = i * s + (k - i) * s := by rw [← Nat.add_mul]; congr 1; omega
      rw [seg_get hfit, if_pos (by omega), show k * s + j - i * s = (k - i) * s + j by omega]
      exact b1
    · rename_i h1 h2; exact old x hk (.inr (by omega))

theorem xappend_ok {tab : Tab} (hT : TabOK P tab) {t u : TypeId} {c H B a x v y} {K : AV → AH → Prop} (hs : HS w c H B) (ha : RA w c H a v) (hx : RA w c H x y)
    (hu : ∃ d, P.underlying u = some d ∧ ∀ k, d ≠ .int k) (h : xappend tab t H a x K) (ty : TypeId) : MOut P (Builtin.append_ #[t, u] ty #[v, y]) w c H B K := by
  unfold xappend at h
  rw [opt_iff] at h
  obtain ⟨i, hi, h⟩ := h
  have hd := (hT t i hi).d
  split at h
  · rename_i e he
    rw [he] at hd
    rw [opt_iff] at h
    obtain ⟨z, hz, h⟩ := h
    rw [opt_iff] at h
    obtain ⟨zs, hzs, h⟩ := h
    rw [opt_iff] at h
    obtain ⟨news, hnews, h⟩ := h
    rw [ck_iff] at h
    obtain ⟨hc, h⟩ := h
    simp only [Bool.and_eq_true] at hc
    have hs1 := Nat.le_of_ble_eq_true hc.1
    have hzl := Nat.eq_of_beq_eq_true hc.2
    obtain ⟨zv, r, hz', inf, hinf, hiz, his, hib⟩ := run_zero (w := w) hT hz hzs
    have hzv : zv.cells.size = z.size := by
      obtain ⟨q, _⟩ := ofVs_ok (w := w) (M := c.M H) hz'
      simpa [hzl] using q.symm
    obtain ⟨vs, reads, cont⟩ := appended_ok (P := P) hs hx hs1 hnews
    rw [← his] at reads
    have hvl : vs.length = news.length * z.size := by rw [← his]; exact reads.num
    -- the model lays a new row
    have grow : ∀ (base : Option Addr) (sLen sCap : Nat) (olds : List Value), olds.length = sLen * z.size → (∀ w' : World, w'.heap = w.heap → (Builtin.firstCells inf.size sLen (.slice base sLen sCap)).run P w' = .ok olds.toArray w') →
        sCap < sLen + news.length → fitsRow (sLen + news.length) z.bytes = true → ∃ arr cap, (Builtin.append_ #[t, u] ty #[.slice base sLen sCap, y]).run P w =
          .ok (.slice (some ⟨w.heap.size, 0, none⟩) (sLen + news.length) cap) (w.drew.alloc (.cells arr e)) ∧ arr.size = cap * z.size ∧ sLen + news.length ≤ cap ∧ cap ≤ maxLen ∧ ∀ (k : Nat) v, (olds ++ vs)[k]? = some v → arr[k]? = some v := by
      intro base sLen sCap olds hol ho hg hf
      obtain ⟨f1, f2⟩ := fitsRow_spec hf
      have run := run_app_grow (P := P) w t u ty e inf zv hd hu hinf hiz base sLen sCap olds ho y news.length vs reads hg f1 (by rw [hib]; exact f2)
      have hge := grownCap_ge w (sLen + news.length) sCap e
      have hcm : grownCap w (sLen + news.length) sCap e ≤ maxLen := grownCap_le_maxLen w _ sCap e (by simp only [maxLen]; omega)
      refine ⟨_, _, run, ?_, hge, hcm, grown_array⟩
      simp only [Array.size_append, List.size_toArray, size_zeroCells, hzv, hol, hvl, ← Nat.add_mul]
      congr 1; omega
    split at h
    · -- nil
      rw [ck_iff] at h
      obtain ⟨hf, h⟩ := h
      cases ha with | t _ _ ha =>
      cases ha
      by_cases hne : news.length = 0
      · rw [hne] at reads
        have hv0 : vs = [] := List.eq_nil_of_length_eq_zero (by rw [hvl, hne, Nat.zero_mul])
        have run := run_app_nil0 (P := P) w t u ty e inf hd hu hinf y vs reads
        obtain ⟨ev, hs'⟩ := new_none hs (.arr e z.size true 0 news)
        exact ⟨_, _, w, c, _, run, .sl _ _ _ _ _ (.arr e z.size true 0 news) getElem?_snoc_eq ⟨Nat.le_refl _, fun _ => ⟨by omega, .inl ⟨rfl, hne, rfl⟩⟩⟩, hs', ev, Below.refl _ _, h⟩
      · obtain ⟨arr, cap, run, a1, a2, a3, a4⟩ := grow none 0 0 [] (by simp) (fun w' _ => run_firstCells_none w' _ _ _ _) (by omega) (by rw [Nat.zero_add]; exact hf)
        simp only [Nat.zero_add, List.nil_append] at run a2 a4
        obtain ⟨r1, r2, r3, r4⟩ := app_new (tab := tab) hs e z.size true cont cap arr a4 a1 a2 a3 hne
        exact ⟨_, _, _, _, _, run, r1, r2, r3, r4, h⟩
    · -- empty, elsewhere
      rw [ck_iff] at h
      obtain ⟨hf, h⟩ := h
      cases ha with | emp ad =>
      by_cases hne : news.length = 0
      · rw [hne] at reads
        have hv0 : vs = [] := List.eq_nil_of_length_eq_zero (by rw [hvl, hne, Nat.zero_mul])
        have run := run_app_emp0 (P := P) w t u ty e inf hd hu hinf ad y vs reads
        obtain ⟨ev, hs'⟩ := new_none hs (.arr e z.size false 0 news)
        exact ⟨_, _, w, c, _, run, .sl _ _ _ _ _ (.arr e z.size false 0 news) getElem?_snoc_eq ⟨Nat.le_refl _, fun _ => ⟨by omega, .inr (.inl ⟨rfl, hne, ad, rfl⟩)⟩⟩, hs', ev, Below.refl _ _, h⟩
      · obtain ⟨arr, cap, run, a1, a2, a3, a4⟩ := grow (some ad) 0 0 [] (by simp) (fun w' _ => run_firstCells_some w' _ 0 _ 0 0 [] (by simp) (by simp)) (by omega) (by rw [Nat.zero_add]; exact hf)
        simp only [Nat.zero_add, List.nil_append] at run a2 a4
        obtain ⟨r1, r2, r3, r4⟩ := app_new (tab := tab) hs e z.size false cont cap arr a4 a1 a2 a3 hne
        exact ⟨_, _, _, _, _, run, r1, r2, r3, r4, h⟩
    · -- a row of the walk's own
      rename_i b g j n
      cases ha with | sl _ _ _ _ _ blk hb hm hv =>
      rw [hb] at h
      cases blk with
      | dead => exact h.elim
      | box => exact h.elim
      | iter => exact h.elim
      | arr e' s' z' gen l =>
        simp only at h
        rw [ck_iff] at h
        obtain ⟨hcc, h⟩ := h
        simp only [Bool.and_eq_true] at hcc
        have hg0 := Nat.eq_of_beq_eq_true hcc.1.1.1
        have hj := Nat.eq_of_beq_eq_true hcc.1.1.2
        have hee := Nat.eq_of_beq_eq_true hcc.1.2
        have hss := Nat.eq_of_beq_eq_true hcc.2
        subst hg0 hj hee hss
        obtain ⟨_, hm⟩ := hm.2 rfl
        have evd : Ev w c H w.drew c H := ev_same (w' := w.drew) (w := w) rfl c H
        have hgb : Blk.fix (.arr e z.size z' g l) = true → c.G b ≠ none := by
          intro hf
          simp only [Blk.fix, Bool.and_eq_true, Bool.not_eq_true', decide_eq_true_eq] at hf
          rcases hm with ⟨z1, l1, _⟩ | ⟨z1, l1, _⟩ | ⟨_, cb, cap, off, hg, _⟩
          · omega
          · omega
          · rw [hg]; simp
        rcases h with ⟨hln, h⟩ | h
        rotate_left
        · -- within what is there
          rw [ck_iff] at h
          obtain ⟨hin, h⟩ := h
          simp only [Bool.and_eq_true] at hin
          have hl1 := Nat.le_of_ble_eq_true hin.1
          have hin := Nat.le_of_ble_eq_true hin.2
          rcases hm with ⟨z1, l1, rfl⟩ | ⟨z1, l1, ad, rfl⟩ | ⟨hne0, cb, cap, off, hg, rfl, hsz, hcap, hmx, hoff, hoff0⟩
          · omega
          · omega
          obtain rfl := hoff0 rfl
          obtain ⟨arr, cap', h1, h2, h3, h4, h5⟩ := hs.arr b cb e z.size z' g l hb hg
          have hcc' : cap' = cap := by
            simp only [rowSize, h1, Nat.zero_add] at hsz
            rw [h2] at hsz
            exact (Nat.eq_of_mul_eq_mul_right (by omega) hsz).symm
          subst hcc'
          have hfit : n * inf.size + vs.length ≤ arr.size := by rw [his, hvl, h2, ← Nat.add_mul]; exact Nat.mul_le_mul_right _ (by omega)
          have run := run_app_room (P := P) w t u ty e inf hd hu hinf cb n cap' arr h1 y news.length vs reads (by omega) hfit
          rw [his] at run hfit
          obtain ⟨ev, hs'⟩ := set_arr hs hb hg h1 (seg_size (vs := vs) hfit) h2 (l' := l.put n news) (g' := g) (by rw [Sq.put_length hin]; omega) h4 (Nat.le_refl _) (by rw [Sq.put_length hin]; exact Nat.le_refl _) (fun _ => Sq.put_length hin)
            (rowed_put h5 cont hvl hin (by rw [h2]; exact Nat.mul_le_mul_right _ h3.1))
          have hlt := lt_of_getElem? hb
          refine ⟨_, _, _, _, _, run, .sl _ _ _ _ _ (.arr e z.size z' g (l.put n news)) (by simp [hlt]) ⟨Nat.le_refl _, fun _ => ⟨by rw [Sq.put_length hin]; omega, .inr <| .inr ⟨fun hh => hne0 ⟨hh.1, by have := hh.2; rw [Sq.put_length hin] at this; exact this⟩, cb, cap', 0, hg, rfl, ?_, by omega, by omega, .inr (by simp), fun _ => rfl⟩⟩⟩, hs', ev, below_setRow' (hs.base _ _ hg).1 _, h⟩
          simp only [rowSize, setRow_heap w cb arr _ e _ h1, seg_size (vs := vs) hfit, h2, Nat.zero_add]
        rw [ck_iff] at h
        obtain ⟨hf, h⟩ := h
        -- in a new block
        have move : ∀ (olds : List Value), olds.length = n * z.size → Cont w c H z.size l olds → ∀ arr cap, arr.size = cap * z.size → n + news.length ≤ cap → cap ≤ maxLen → (∀ (k : Nat) v, (olds ++ vs)[k]? = some v → arr[k]? = some v) → ¬ news.length = 0 →
            (Builtin.append_ #[t, u] ty #[v, y]).run P w = .ok (.slice (some ⟨w.heap.size, 0, none⟩) (n + news.length) cap) (w.drew.alloc (.cells arr e)) → MOut P (Builtin.append_ #[t, u] ty #[v, y]) w c H B K := by
          intro olds hol hco arr cap a1 a2 a3 a4 hne run
          have hal := Sq.app_length l news
          obtain ⟨ev, hs'⟩ := move_arr hs hb arr (l' := l.app news) (g' := g + 2 - g % 2) (cap := cap) a1 (by omega) a3 (by omega) hgb (by omega) (cont_array (cont_append hco cont (by rw [hol, hln])) a4)
          have hlt := lt_of_getElem? hb
          refine ⟨_, _, _, _, _, run, .sl _ _ _ _ _ (.arr e z.size z' (g + 2 - g % 2) (l.app news)) (by simp [hlt]) ⟨Nat.le_refl _, fun _ => ⟨by rw [Sq.app_length]; omega, .inr <| .inr ⟨fun hh => ?_, w.heap.size, cap, 0, by simp [Cx.new], rfl, ?_, a2, by omega, .inr (by simp), fun _ => rfl⟩⟩⟩, hs', ev, below_drew.trans (below_new (hs.same (w' := w.drew) rfl).hB _), h⟩
          · have := hh.2; omega
          · have := rowSize_alloc w.drew arr e
            rw [show w.drew.heap.size = w.heap.size from rfl] at this
            rw [this, a1, Nat.zero_add]
        -- nothing is appended, and nothing was there
        have idle : news.length = 0 → l.length = 0 → (Builtin.append_ #[t, u] ty #[v, y]).run P w = .ok v w → ((z' = true ∧ v = .slice none 0 0) ∨ (z' = false ∧ ∃ (ad : Addr), v = .slice (some ad) 0 0)) → MOut P (Builtin.append_ #[t, u] ty #[v, y]) w c H B K := by
          intro h1 h2 run hvv
          have hn0 : n = 0 := by omega
          subst hn0
          have hl0 : (l.app news).length = 0 := by rw [Sq.app_length]; omega
          obtain ⟨ev, hs'⟩ := empty_arr (g' := g + 2 - g % 2) hs (by omega) (.inr (by omega)) hb h2 (l' := l.app news) hl0
          rw [h1, Nat.add_zero] at h
          have hlt := lt_of_getElem? hb
          rcases hvv with ⟨k1, rfl⟩ | ⟨k1, ad, rfl⟩
          · exact ⟨_, _, w, c, _, run, .sl _ _ _ _ _ (.arr e z.size z' (g + 2 - g % 2) (l.app news)) (by simp [hlt]) ⟨Nat.le_refl _, fun _ => ⟨by omega, .inl ⟨k1, hl0, rfl⟩⟩⟩, hs', ev, Below.refl _ _, h⟩
          · exact ⟨_, _, w, c, _, run, .sl _ _ _ _ _ (.arr e z.size z' (g + 2 - g % 2) (l.app news)) (by simp [hlt]) ⟨Nat.le_refl _, fun _ => ⟨by omega, .inr (.inl ⟨k1, hl0, ad, rfl⟩)⟩⟩, hs', ev, Below.refl _ _, h⟩
        rcases hm with ⟨z1, l1, rfl⟩ | ⟨z1, l1, ad, rfl⟩ | ⟨hne0, cb, cap, off, hg, rfl, hsz, hcap, hmx, hoff, hoff0⟩
        · have hn0 : n = 0 := by omega
          subst hn0
          by_cases hne : news.length = 0
          · have hv0 : vs = [] := List.eq_nil_of_length_eq_zero (by rw [hvl, hne]; simp)
            rw [hne] at reads
            exact idle hne l1 (run_app_nil0 (P := P) w t u ty e inf hd hu hinf y vs reads) (.inl ⟨z1, rfl⟩)
          · obtain ⟨arr, cap, run, a1, a2, a3, a4⟩ := grow none 0 0 [] (by simp) (fun w' _ => run_firstCells_none w' _ _ _ _) (by omega) hf
            exact move [] (by simp) (cont_nil l1) arr cap a1 a2 a3 a4 hne run
        · have hn0 : n = 0 := by omega
          subst hn0
          by_cases hne : news.length = 0
          · have hv0 : vs = [] := List.eq_nil_of_length_eq_zero (by rw [hvl, hne]; simp)
            rw [hne] at reads
            exact idle hne l1 (run_app_emp0 (P := P) w t u ty e inf hd hu hinf ad y vs reads) (.inr ⟨z1, ad, rfl⟩)
          · obtain ⟨arr, cap, run, a1, a2, a3, a4⟩ := grow (some ad) 0 0 [] (by simp) (fun w' _ => run_firstCells_some w' _ 0 _ 0 0 [] (by simp) (by simp)) (by omega) hf
            exact move [] (by simp) (cont_nil l1) arr cap a1 a2 a3 a4 hne run
        · have ho := hoff0 rfl
          subst ho
          obtain ⟨arr, cap', h1, h2, h3, h4, h5⟩ := hs.arr b cb e z.size z' g l hb hg
          have hcc' : cap' = cap := by
            simp only [rowSize, h1, Nat.zero_add] at hsz
            rw [h2] at hsz
            exact (Nat.eq_of_mul_eq_mul_right (by omega) hsz).symm
          subst hcc'
          have hol : (arr.toList.take (n * z.size)).length = n * z.size := by
            have : n * z.size ≤ cap' * z.size := Nat.mul_le_mul_right _ (by omega)
            simp; omega
          have hco : Cont w c H z.size l (arr.toList.take (n * z.size)) := fun i x hi => ⟨(h5 i x hi).1, fun j y hj => by
            obtain ⟨v, q1, q2, q3, q4⟩ := (h5 i x hi).2 j y hj
            refine ⟨v, ?_, q2, q3, q4⟩
            have hjl := lt_of_getElem? hj
            have hil := Sq.get_lt hi
            have := (h5 i x hi).1
            have hlt : i * z.size + j < n * z.size := by
              have : (i + 1) * z.size ≤ n * z.size := Nat.mul_le_mul_right _ (by omega)
              rw [Nat.succ_mul] at this; omega
            rw [List.getElem?_take_of_lt hlt]
            simpa using q1⟩
          by_cases hroom : n + news.length ≤ cap'
          · have hfit : n * inf.size + vs.length ≤ arr.size := by rw [his, hvl, h2, ← Nat.add_mul]; exact Nat.mul_le_mul_right _ hroom
            have run := run_app_room (P := P) w t u ty e inf hd hu hinf cb n cap' arr h1 y news.length vs reads hroom hfit
            rw [his] at run hfit
            obtain ⟨ev, hs'⟩ := set_arr hs hb hg h1 (seg_size (vs := vs) hfit) h2 (l' := l.app news) (g' := g + 2 - g % 2) (by rw [Sq.app_length]; omega) h4 (by omega) (by rw [Sq.app_length]; omega) (fun hh => by rw [Sq.app_length]; omega)
              (cont_array (cont_append hco cont (by rw [hol, hln])) (fun k v hk => by
                rw [seg_get hfit]
                by_cases hlt : k < n * z.size
                · rw [if_neg (by omega)]
                  rw [List.getElem?_append_left (by omega), List.getElem?_take_of_lt hlt] at hk
                  simpa using hk
                · rw [List.getElem?_append_right (by omega), hol] at hk
                  have := lt_of_getElem? hk
                  rw [if_pos (by omega)]
                  exact hk))
            have hlt := lt_of_getElem? hb
            refine ⟨_, _, _, _, _, run, .sl _ _ _ _ _ (.arr e z.size z' (g + 2 - g % 2) (l.app news)) (by simp [hlt]) ⟨Nat.le_refl _, fun _ => ⟨by rw [Sq.app_length]; omega, .inr <| .inr ⟨fun hh => hne0 ⟨hh.1, ?_⟩, cb, cap', 0, hg, rfl, ?_, hroom, by omega, .inr (by simp), fun _ => rfl⟩⟩⟩, hs', ev, below_setRow' (hs.base b cb hg).1 _, h⟩
            · have := hh.2; rw [Sq.app_length] at this; omega
            · simp only [rowSize, setRow_heap w cb arr _ e _ h1, seg_size (vs := vs) hfit, h2, Nat.zero_add]
          · have hne : ¬ news.length = 0 := fun e => by omega
            obtain ⟨arr2, cap2, run, a1, a2, a3, a4⟩ := grow (some ⟨cb, 0, none⟩) n cap' (arr.toList.take (n * z.size)) hol (fun w' hw => run_firstCells_some w' _ n _ n cap' _ (by rw [his]; exact hol) (fun k v hk => by
              have hlt := lt_of_getElem? hk
              rw [hol] at hlt
              rw [List.getElem?_take_of_lt hlt] at hk
              rw [Addr.add_lit, Nat.zero_add]
              have : w'.cell? ⟨cb, k, none⟩ = w.cell? ⟨cb, k, none⟩ := by simp only [World.cell?, hw]
              rw [this, cell_row h1]
              simpa using hk)) (by omega) hf
            exact move _ hol hco arr2 cap2 a1 a2 a3 a4 hne run
    · exact h.elim
  · exact h.elim

/-! ### Zeros appended to nil, copies, capacities -/

theorem run_app_zero (t u ty e : TypeId) (i : TypeInfo) (zv : Value) (ht : P.underlying t = some (.slice e)) {ki : IntKind} (hu : P.underlying u = some (.int ki)) (hi : P.info? e = some i) (hz : i.zero = some zv)
    (n : Nat) (hn : 0 < n) (h63 : n ≤ 9223372036854775807) (hfit : n * i.bytes ≤ 140737488355328 ∨ (n + n / 4 + 192) * i.bytes ≤ 281474976710656) (h1 : 1 ≤ i.size) :
    (Builtin.append_ #[t, u] ty #[.slice none 0 0, .int .i64 (n : Int)]).run P w =
      .ok (.slice (some ⟨w.heap.size, 0, none⟩) n (grownCap w n 0 e)) (w.drew.alloc (.cells (Builtin.zeroCells zv.cells n ++ Builtin.zeroCells zv.cells (grownCap w n 0 e - n)) e)) := by
  have hw : IntKind.i64.wrap (n : Int) = n := by rw [IntKind.wrap_i64]; omega
  have h0 : ¬ ((n : Int) < 0) := by omega
  have hb : ¬ (281474976710656 < (n : Int) * (i.bytes : Int)) := by
    have : n * i.bytes ≤ 281474976710656 := by
      rcases hfit with h | h
      · omega
      · exact Nat.le_trans (Nat.mul_le_mul_right _ (by omega)) h
    have : ((n * i.bytes : Nat) : Int) ≤ 281474976710656 := by generalize n * i.bytes = q at this; omega
    rw [Int.natCast_mul] at this; omega
  have hfit' : Builtin.nextslicecap n 0 * i.bytes ≤ 281474976710656 := hfit.elim (growslice_fits (by omega : 0 < n)) (growslice_fits_wide (by omega : 0 < n))
  have h48' : ¬ (281474976710656 < Builtin.nextslicecap n 0 * i.bytes) := by omega
  have h63' : ¬ (9223372036854775807 < (n : Int)) := by omega
  have hns : ¬ (n * i.size = 0) := by
    intro e0
    rcases Nat.mul_eq_zero.1 e0 with e1 | e1 <;> omega
  have hn0 : ¬ n = 0 := by omega
  have hs0 : ¬ i.size = 0 := by omega
  simp [Builtin.append_, run_underlying ht, run_underlying hu, sizeOf, typeInfo, zeroValue, hi, hz, asInt, asIntOf, hw, h0, hb, hn0, hs0, h63', h48', Question.forced, Builtin.firstCells, newRow, grownCap]
  intro hz0
  exact absurd hz0 (by simpa using hns)

theorem run_copy_at (dT sT ty elem : TypeId) (i : TypeInfo) (g o dLen dCap : Nat) (cur : Array Value) (t : TypeId) (hu : P.underlying dT = some (.slice elem)) (hi : P.info? elem = some i)
    (x : Value) (n : Nat) (news : List Value) (hx : Reads P w i.size n x news) (hn : n ≤ dLen) (hg : w.heap[g]? = some (.cells cur t (0, 0))) (hfit : o + news.length ≤ cur.size) :
    (Builtin.copy_ #[dT, sT] ty #[.slice (some ⟨g, o, none⟩) dLen dCap, x]).run P w = .ok (goInt n) (w.setRow g (cur.toList.take o ++ news ++ cur.toList.drop (o + news.length)).toArray) := by
  have hst := run_storeCells_at P g o t news 0 cur w hg (by simpa using hfit) hx.one
  have hm : Nat.min n dLen = n := Nat.min_eq_left hn
  have hf := hx.get w rfl
  simp only [Nat.add_zero] at hst
  simp [Builtin.copy_, run_underlying hu, hx.len, hm, sizeOf, typeInfo, hi, hf, hst]

theorem xcap_ok {tab : Tab} (hT : TabOK P tab) {t : TypeId} {c H B x v} {K : AV → Prop} (hs : HS w c H B) (h : xcap tab t H x K) (hx : RA w c H x v) (ty : TypeId) :
    ∃ y val, (Builtin.cap_ #[t] ty #[v]).run P w = .ok val w ∧ RA w c H y val ∧ K y := by
  unfold xcap at h
  rw [opt_iff] at h
  obtain ⟨y, hy, h⟩ := h
  have hd := (hT t y hy).d
  split at h
  · rename_i e he
    rw [he] at hd
    cases hx with | t _ _ hx =>
    cases hx
    exact ⟨_, .int .i64 0, by simp [Builtin.cap_, run_underlying hd, goInt], .t _ _ (.int _ _), h⟩
  · rename_i e b g i n he
    rw [he] at hd
    cases hx with | sl _ _ _ _ _ blk hb hm =>
    rw [hb] at h
    cases blk with
    | dead => exact h.elim
    | box => exact h.elim
    | iter => exact h.elim
    | arr e' s z gen l =>
      simp only at h
      rw [ck_iff] at h
      obtain ⟨hgg, h⟩ := h
      obtain ⟨hlen, hm2⟩ := hm.2 (Nat.eq_of_beq_eq_true hgg)
      rw [br_iff] at h
      rcases h with ⟨h0, k⟩ | ⟨h0, h⟩
      · simp only [Bool.and_eq_true] at h0
        have hl0 : l.length = 0 := Nat.eq_of_beq_eq_true h0.2
        rcases hm2 with ⟨z1, l1, rfl⟩ | ⟨z1, l1, ad, rfl⟩ | ⟨hne, _⟩
        · exact ⟨_, .int .i64 0, by simp [Builtin.cap_, run_underlying hd, goInt], .t _ _ (.int _ _), k⟩
        · rw [z1] at h0; simp at h0
        · exact (hne ⟨h0.1, hl0⟩).elim
      · rw [ck_iff] at h
        obtain ⟨hx2, k⟩ := h
        simp only [Bool.and_eq_true] at hx2
        have hodd := Nat.eq_of_beq_eq_true hx2.1
        have hs1 := Nat.le_of_ble_eq_true hx2.2
        rcases hm2 with ⟨z1, l1, rfl⟩ | ⟨z1, l1, ad, rfl⟩ | ⟨hne, cb, cap, off, hg, rfl, hsz', hcap, hmx, hoff, hoff0⟩
        · rw [z1, l1] at h0; simp at h0
        · refine ⟨_, .int .i64 0, by simp [Builtin.cap_, run_underlying hd, goInt], .t _ _ (.int _ _), ?_⟩
          rw [show l.length - i = 0 by omega] at k
          exact k
        · obtain ⟨arr0, cap0, h10, h20, h30, h40, h50⟩ := hs.arr b cb e' s z gen l hb hg
          have : i + cap = cap0 := by
            simp only [rowSize, h10] at hsz'
            rw [h20] at hsz'
            exact Nat.eq_of_mul_eq_mul_right (by omega) hsz'
          have := h30.2 hodd
          refine ⟨_, .int .i64 cap, by simp [Builtin.cap_, run_underlying hd, goInt], .t _ _ (.int _ _), ?_⟩
          rw [show l.length - i = cap by omega] at k
          exact k
  · exact h.elim

theorem xcopy_ok {tab : Tab} (hT : TabOK P tab) {t u : TypeId} {c H B a x v y} {K : AV → AH → Prop} (hs : HS w c H B) (ha : RA w c H a v) (hx : RA w c H x y) (h : xcopy tab t a x H K) (ty : TypeId) :
    MOut P (Builtin.copy_ #[t, u] ty #[v, y]) w c H B K := by
  unfold xcopy at h
  rw [opt_iff] at h
  obtain ⟨i, hi, h⟩ := h
  have hd := (hT t i hi).d
  split at h
  · rename_i e he
    rw [he] at hd
    rw [opt_iff] at h
    obtain ⟨z, hz, h⟩ := h
    split at h
    · rw [ck_iff, opt_iff] at h
      obtain ⟨hst, m, hm, k⟩ := h
      cases ha with | t _ _ ha =>
      cases ha
      obtain ⟨inf, hinf, his, _⟩ := (hT e z hz).info
      have hl : ∀ (x : Addr), (loadCells x 0).run P w = .ok #[] w := fun x => by simpa using run_loadCells_list (P := P) w x [] (by simp)
      rcases lenA_ok hx hm with ⟨s, rfl, _, h1⟩ | ⟨a, q, rfl, _⟩
      · rw [h1] at hst; cases hst
      · refine .here hs (val := goInt 0) ?_ (.t _ _ (.int _ _)) k
        cases a <;> simp [Builtin.copy_, run_underlying hd, Builtin.lenOf, Builtin.firstCells, sizeOf, typeInfo, hinf, storeCells, hl]
    · rename_i b g j n
      cases ha with | sl _ _ _ _ _ blk hb hm hv =>
      rw [hb] at h
      cases blk with
      | dead => exact h.elim
      | box => exact h.elim
      | iter => exact h.elim
      | arr e' s' z' gen l =>
        simp only at h
        rw [opt_iff] at h
        obtain ⟨news, hnews, h⟩ := h
        rw [ck_iff, ck_iff] at h
        obtain ⟨hc, hn, h⟩ := h
        simp only [Bool.and_eq_true] at hc
        have hg0 := Nat.eq_of_beq_eq_true hc.1.1.1
        have hss := Nat.eq_of_beq_eq_true hc.1.1.2
        have hs1 := Nat.le_of_ble_eq_true hc.1.2
        have hl1 := Nat.le_of_ble_eq_true hc.2
        have hn := Nat.le_of_ble_eq_true hn
        subst hg0 hss
        obtain ⟨hln, hm⟩ := hm.2 rfl
        obtain ⟨inf, hinf, his, _⟩ := (hT e z hz).info
        obtain ⟨vs, reads, cont⟩ := appended_ok (P := P) hs hx hs1 hnews
        rw [← his] at reads
        have hvl : vs.length = news.length * z.size := by rw [← his]; exact reads.num
        rcases hm with ⟨z1, l1, rfl⟩ | ⟨z1, l1, ad, rfl⟩ | ⟨hne0, cb, cap, off, hg, rfl, hsz, hcap, hmx, hoff, hoff0⟩
        · omega
        · omega
        have hin : j + news.length ≤ l.length := by omega
        obtain ⟨arr, cap', h1, h2, h3, h4, h5⟩ := hs.arr b cb e' z.size z' g l hb hg
        have hsize : l.length * z.size ≤ arr.size := by rw [h2]; exact Nat.mul_le_mul_right _ h3.1
        have hpos : (j + news.length) * z.size ≤ l.length * z.size := Nat.mul_le_mul_right _ hin
        rw [Nat.add_mul] at hpos
        have hlt := lt_of_getElem? hb
        by_cases hcap0 : cap = 0
        · have hn0 : n = 0 := by omega
          have hnw : news.length = 0 := by omega
          have hv0 : vs = [] := List.eq_nil_of_length_eq_zero (by rw [hvl, hnw, Nat.zero_mul])
          subst hv0
          have hrun : (Builtin.copy_ #[t, u] ty #[.slice (some ⟨cb, off, none⟩) n cap, y]).run P w = .ok (goInt 0) w := by
            have hf := reads.get w rfl
            rw [hnw] at hf
            have hlen := reads.len
            rw [hnw] at hlen
            simp [Builtin.copy_, run_underlying hd, hlen, sizeOf, typeInfo, hinf, hf, storeCells]
          obtain ⟨ev, hs'⟩ := set_arr hs hb hg h1 rfl h2 (l' := l.put j news) (g' := g) (by rw [Sq.put_length hin]; omega) h4 (Nat.le_refl _) (by rw [Sq.put_length hin]; exact Nat.le_refl _) (fun _ => Sq.put_length hin)
            (by have := rowed_put h5 cont hvl hin hsize; simpa [List.take_append_drop] using this)
          rw [setRow_self w cb arr e' (0, 0) h1] at ev hs'
          rw [hnw] at h
          exact ⟨_, _, w, c, _, hrun, .t _ _ (.int _ _), hs', ev, Below.refl _ _, h⟩
        have ho : off = j * z.size := hoff.resolve_left hcap0
        subst ho
        have hfit : j * z.size + vs.length ≤ arr.size := by omega
        have run := run_copy_at (P := P) (w := w) t u ty e inf cb (j * z.size) n cap arr e' hd hinf y news.length vs reads hn h1 hfit
        obtain ⟨ev, hs'⟩ := set_arr hs hb hg h1 (seg_size (vs := vs) hfit) h2 (l' := l.put j news) (g' := g) (by rw [Sq.put_length hin]; omega) h4 (Nat.le_refl _) (by rw [Sq.put_length hin]; exact Nat.le_refl _) (fun _ => Sq.put_length hin)
          (rowed_put h5 cont hvl hin hsize)
        exact ⟨_, _, _, _, _, run, .t _ _ (.int _ _), hs', ev, below_setRow' (hs.base _ _ hg).1 _, h⟩
    · exact h.elim
  · exact h.elim

theorem xappendZ_ok {tab : Tab} (hT : TabOK P tab) {t u : TypeId} {c H B a x v y} {K : AV → AH → Prop} (hs : HS w c H B) (ha : RA w c H a v) (hx : RA w c H x y) {ki : IntKind} (hu : P.underlying u = some (.int ki))
    (h : xappendZ tab t a x H K) (ty : TypeId) : MOut P (Builtin.append_ #[t, u] ty #[v, y]) w c H B K := by
  unfold xappendZ at h
  rw [opt_iff] at h
  obtain ⟨i, hi, h⟩ := h
  have hd := (hT t i hi).d
  split at h
  · rename_i e he
    rw [he] at hd
    rw [opt_iff] at h
    obtain ⟨z, hz, h⟩ := h
    rw [opt_iff] at h
    obtain ⟨zs, hzs, h⟩ := h
    split at h
    · rename_i k n
      rw [ck_iff] at h
      obtain ⟨hc, h⟩ := h
      simp only [Bool.and_eq_true, decide_eq_true_eq] at hc
      obtain ⟨⟨⟨⟨⟨hk, h0⟩, hf⟩, hs1⟩, hzl⟩, hz1⟩ := hc
      obtain rfl := sameK_eq hk
      cases ha with | t _ _ ha =>
      cases ha
      obtain rfl := hx.int
      have hs1 := Nat.le_of_ble_eq_true hs1
      have hzl := Nat.eq_of_beq_eq_true hzl
      obtain ⟨f1, f2⟩ := fitsRow_spec hf
      obtain ⟨zv, r, hz', inf, hinf, hiz, his, hib⟩ := run_zero (w := w) hT hz hzs
      obtain ⟨zk1, zk2⟩ := ofVs_ok (w := w) (M := c.M H) hz'
      have hzs0 : zv.cells.size = z.size := by simpa [hzl] using zk1.symm
      obtain ⟨m, rfl⟩ := Int.eq_ofNat_of_zero_le (Int.le_of_lt h0)
      have hm : ((m : Int)).toNat = m := rfl
      rw [hm] at f1 f2 h
      have run := run_app_zero (P := P) (w := w) t u ty e inf zv hd hu hinf hiz m (by omega) f1 (by rw [hib]; exact f2) (by rw [his]; exact hs1)
      have hel := mkElem_cells hzl hz1 hs1
      have hge := grownCap_ge w m 0 e
      have hcm : grownCap w m 0 e ≤ maxLen := grownCap_le_maxLen w _ 0 e (by simp only [maxLen]; omega)
      have hvsl : (Builtin.zeroCells zv.cells m).toList.length = m * z.size := by simp [size_zeroCells, hzs0]
      have cont : Cont w c H z.size (.ts (List.replicate m (mkElem z.size zs))) (Builtin.zeroCells zv.cells m).toList := fun k x hk => by
        obtain ⟨e0, hk', rfl⟩ := ts_get hk
        have hkl := lt_of_getElem? hk'
        simp at hkl
        have : e0 = mkElem z.size zs := by simp [hkl] at hk'; exact hk'.symm
        subst this
        rw [T.cells_t, hel]
        refine ⟨by simpa using hzl, fun j y' hj => ?_⟩
        simp only [List.getElem?_map, Option.map_eq_some_iff] at hj
        obtain ⟨y', hj, rfl⟩ := hj
        have hjl := lt_of_getElem? hj
        have hlt : k * z.size + j < m * z.size := by
          have : (k + 1) * z.size ≤ m * z.size := Nat.mul_le_mul_right _ (by omega)
          rw [Nat.succ_mul] at this; omega
        obtain ⟨q, hq⟩ := arr_get (a := zv.cells) (i := j) (by omega)
        have hy1 : y'.one = true := by rw [List.all_eq_true] at hz1; exact hz1 y' (List.mem_of_getElem? hj)
        have rt := zk2 j y' q hj (by simpa using hq)
        refine ⟨q, ?_, hy1, .t _ _ rt, (rt.oneCell hy1).1⟩
        have hjz : (k * z.size + j) % zv.cells.size = j := by rw [hzs0, Nat.mul_comm k, Nat.mul_add_mod, Nat.mod_eq_of_lt (by omega)]
        have hlt2 : k * z.size + j < m * zv.cells.size := by rw [hzs0]; exact hlt
        simp only [Builtin.zeroCells, Array.toList_map, List.getElem?_map, Array.toList_range]
        rw [List.getElem?_range hlt2]
        simp only [Option.map_some, hjz]
        rw [← hq]
        have : j < zv.cells.size := by omega
        simp [this]
      obtain ⟨r1, r2, r3, r4⟩ := app_new (tab := tab) hs e z.size true cont (grownCap w m 0 e) (Builtin.zeroCells zv.cells m ++ Builtin.zeroCells zv.cells (grownCap w m 0 e - m))
        (fun k v hk => by rw [Array.getElem?_append_left (by have := lt_of_getElem? hk; simpa using this)]; simpa using hk)
        (by simp only [Array.size_append, size_zeroCells, hzs0, ← Nat.add_mul]; congr 1; omega) (by simp [Sq.length]; exact hge) hcm (by simp [Sq.length]; omega)
      have hlen : (Sq.ts (List.replicate m (mkElem z.size zs))).length = m := by simp [Sq.length]
      rw [hlen] at r1
      exact ⟨_, _, _, _, _, run, r1, r2, r3, r4, h⟩
    · exact h.elim
  · exact h.elim

end
end Go.Proofs.YthpkehhghcpolaaDoor
