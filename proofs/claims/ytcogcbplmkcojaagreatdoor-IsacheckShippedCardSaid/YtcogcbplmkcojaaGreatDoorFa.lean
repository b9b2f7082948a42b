/-
  The ground of the walks of this seat, part Fa.
-/
import Derived.Laws.AppendOwn
import Derived.Below
import Derived.Laws.RangeString
import Derived.Deep.DeepAppendWide
import Derived.Laws.CopyRow
import Derived.Laws.StructEq
import Derived.Laws.Strings
import Derived.Laws.Unary
import Derived.WalkSpells
import Derived.Laws.Build
import Derived.Laws.Slices
import Derived.Laws.MakeOwn
import Derived.Laws.BytesArg
import Derived.IntWalk
namespace Go.Proofs.YtcogcbplmkcojaaGreatDoor
open Go.RowKit
set_option linter.unusedVariables false
inductive T where
 | bool (b : Bool) | int (k : IntKind) (n : Int) | str (s : List UInt8)
 | ju | av | kQ | kP
 | cO (cells : List T)
 | vec (s : Nat) (l : List T)
 | agg (cs : List T)
 | fn (f : Fn) (first captured : List T)
 | bY (t : TypeId) (v : T)
 | κ (s : Nat) (l : List T)
def T.cells : T → List T
 | .agg cs => cs
 | v => [v]
def T.one : T → Bool
 | .agg _ => false
 | _ => true
inductive RT (w : World) (M : Nat → Prop) : T → Value → Prop
 | bool (b) : RT w M (.bool b) (.bool b)
 | int (k n) : RT w M (.int k n) (.int k n)
 | str (s : ByteArray) : RT w M (.str s.data.toList) (.string s)
 | ju : RT w M .ju (.pointer none)
 | av : RT w M .av (.slice none 0 0)
 | kQ : RT w M .kQ .nilFunc
 | kP : RT w M .kP .nilIface
 | cO (cells : List T) (b off : Nat) (vals : Nat → Value) (hM : cells ≠ [] → ¬ M b)
  (hc : ∀ (i : Nat) c, cells[i]? = some c → w.cell? ⟨b, off + i, none⟩ = some (vals i) ∧ c.one = true)
  (hr : ∀ (i : Nat) c, cells[i]? = some c → RT w M c (vals i)) : RT w M (.cO cells) (.pointer (some ⟨b, off, none⟩))
 | vec (s : Nat) (l : List T) (b off cap : Nat) (sp : Option Nat) (vals : Nat → Nat → Value) (hM : l ≠ [] → 0 < s → ¬ M b) (ej : l.length ≤ cap) (iI : l ≠ [] → sp = none)
  (hs : ∀ (i : Nat) e, l[i]? = some e → e.cells.length = s)
  (hc : ∀ (i : Nat) e (j : Nat) c, l[i]? = some e → e.cells[j]? = some c → w.cell? ⟨b, off + i * s + j, none⟩ = some (vals i j) ∧ c.one = true)
  (hr : ∀ (i : Nat) e (j : Nat) c, l[i]? = some e → e.cells[j]? = some c → RT w M c (vals i j)) :
  RT w M (.vec s l) (.slice (some ⟨b, off, sp⟩) l.length cap)
 | agg (cs : List T) (vs : Array Value) (hl : cs.length = vs.size) (h1 : ∀ (i : Nat) c, cs[i]? = some c → c.one = true)
  (hr : ∀ (i : Nat) c v, cs[i]? = some c → vs[i]? = some v → RT w M c v) : RT w M (.agg cs) (.agg vs)
 | fn (f : Fn) (first captured : List T) (a b : Array Value) (ha : first.length = a.size) (hb : captured.length = b.size)
  (cY : ∀ (i : Nat) c v, first[i]? = some c → a[i]? = some v → RT w M c v)
  (yt : ∀ (i : Nat) c v, captured[i]? = some c → b[i]? = some v → RT w M c v) : RT w M (.fn f first captured) (.func f a b)
 | bY (t : TypeId) (x : T) (v : Value) (h : RT w M x v) : RT w M (.bY t x) (.iface t v)
 | kA (s : Nat) : RT w M (.κ s []) (.slice none 0 0)
 | κ (s : Nat) (l : List T) (v : Value) (h : RT w M (.vec s l) v) : RT w M (.κ s l) v
theorem RT.mono {w w' : World} {M M' : Nat → Prop} (hb : ∀ b, b < w.heap.size → ¬ M b → w'.heap[b]? = w.heap[b]? ∧ ¬ M' b)
 {x : T} {v : Value} (h : RT w M x v) : RT w' M' x v := by
 have cell : ∀ {b o : Nat} {u : Value}, ¬ M b → w.cell? ⟨b, o, none⟩ = some u → w'.cell? ⟨b, o, none⟩ = some u := by
  intro b o u hm hc
  have χ := World.block_lt_of_cell? w _ hc
  exact (World.cell?_of_block (w := w) (w' := w') (a := ⟨b, o, none⟩) (hb b χ hm).1).trans hc
 induction h with
 | bool b => exact .bool b
 | int k n => exact .int k n
 | str s => exact .str s
 | ju => exact .ju
 | av => exact .av
 | kQ => exact .kQ
 | kP => exact .kP
 | cO cells b off vals lg hc _ ih =>
  refine .cO cells b off vals (fun aw => ?_) (fun i c hi => ⟨cell (lg ?_) (hc i c hi).1, (hc i c hi).2⟩) ih
  ·obtain ⟨c, r, rfl⟩ := List.exists_cons_of_ne_nil aw
   exact (hb b (World.block_lt_of_cell? w _ (hc 0 c rfl).1) (lg aw)).2
  ·intro e; simp [e] at hi
 | vec s l b off cap sp vals lg ej iI hs hc _ ih =>
  refine .vec s l b off cap sp vals (fun aw hp => ?_) ej iI hs (fun i e j c hi hj => ⟨cell (lg ?_ ?_) (hc i e j c hi hj).1, (hc i e j c hi hj).2⟩) ih
  ·obtain ⟨e, r, rfl⟩ := List.exists_cons_of_ne_nil aw
   have h1 := hs 0 e rfl
   have h2 : e.cells[0]? = some (e.cells[0]'(by omega)) := List.getElem?_eq_getElem _
   exact (hb b (World.block_lt_of_cell? w _ (hc 0 e 0 _ rfl h2).1) (lg aw hp)).2
  ·intro e; simp [e] at hi
  ·have h1 := hs i e hi
   have h2 : j < e.cells.length := by
    rcases Nat.lt_or_ge j e.cells.length with h | h
    ·exact h
    ·simp [List.getElem?_eq_none h] at hj
   omega
 | agg cs vs hl h1 _ ih => exact .agg cs vs hl h1 ih
 | fn f first captured a b ha aC _ _ lG lF => exact .fn f first captured a b ha aC lG lF
 | bY t x v _ ih => exact .bY t x v ih
 | kA s => exact .kA s
 | κ s l v _ ih => exact .κ s l v ih
inductive AV where
 | t (x : T)
 | ptr (b g i o : Nat)
 | sl (b g i len : Nat)
 | agg (cs : List AV)
 | ao (vs : List AV)
 | fn (f : Fn) (first captured : List AV)
 | bY (t : TypeId) (v : AV)
 | own (e s : Nat) (z : Bool) (l : List T)
 | dc
 | bj
inductive Sq where
 | ts (l : List T)
 | vs (l : List AV)
def Sq.length : Sq → Nat
 | .ts l => l.length
 | .vs l => l.length
def Sq.get : Sq → Nat → Option AV
 | .ts l, i => l[i]?.map .t
 | .vs l, i => l[i]?
def Sq.part : Sq → Nat → Nat → Sq
 | .ts l, i, n => .ts ((l.drop i).take n)
 | .vs l, i, n => .vs ((l.drop i).take n)
def Sq.jT : Sq → Sq → Sq
 | .ts a, .ts b => .ts (a ++ b)
 | .ts a, .vs b => .vs (a.map .t ++ b)
 | .vs a, .ts b => .vs (a ++ b.map .t)
 | .vs a, .vs b => .vs (a ++ b)
def Sq.put (l : Sq) (o : Nat) (news : Sq) : Sq :=
 match l, news with
 | .ts a, .ts b => .ts (a.take o ++ b ++ a.drop (o + b.length))
 | l, news => ((l.part 0 o).jT news).jT (l.part (o + news.length) l.length)
inductive Ψ where
 | dead
 | box (cells : List AV)
 | arr (e s : Nat) (z : Bool) (g : Nat) (l : Sq)
 | iter (s : List UInt8) (pos : Nat)
def AV.cells : AV → List AV
 | .agg cs => cs
 | .t (.agg cs) => cs.map .t
 | v => [v]
def AV.one : AV → Bool
 | .agg _ => false
 | .ao _ => false
 | .bj => false
 | .own .. => false
 | .t x => x.one
 | _ => true
abbrev AH := List Ψ
def AH.at (H : AH) (b : Nat) : Option Ψ := H[b]?
def Ψ.fix : Ψ → Bool
 | .arr _ _ z _ l => !z && decide (0 < l.length)
 | _ => true
def Ψ.live : Ψ → Bool
 | .dead => false
 | _ => true
structure Cx where
 F : Nat → Prop
 G : Nat → Option Nat
def Cx.M (c : Cx) (H : AH) (cb : Nat) : Prop := c.F cb ∨ ∃ b ν, H[b]? = some ν ∧ ν.live = true ∧ c.G b = some cb
def Cx.O (c : Cx) (H : AH) (cb : Nat) : Prop := ∃ b ν, H[b]? = some ν ∧ ν.live = true ∧ c.G b = some cb
def dI (w : World) (cb : Nat) : Nat := match w.heap[cb]? with | some (.cells arr _ _) => arr.size | _ => 0
inductive RA (w : World) (c : Cx) (H : AH) : AV → Value → Prop
 | t (x v) (h : RT w (c.M H) x v) : RA w c H (.t x) v
 | ptr (b g i o : Nat) (v : Value) (ν : Ψ) (hb : H[b]? = some ν)
  (h : match ν with
   | .dead => True
   | .box _ => ∃ cb, c.G b = some cb ∧ v = .pointer (some ⟨cb, o, none⟩)
   | .iter _ _ => ∃ cb, c.G b = some cb ∧ v = .pointer (some ⟨cb, o, none⟩)
   | .arr _ s _ gen _ => g ≤ gen ∧ (g = gen → ∃ cb, c.G b = some cb ∧ v = .pointer (some ⟨cb, i * s + o, none⟩)))
  (hv : ∃ a, v = .pointer a := by exact ⟨_, rfl⟩) : RA w c H (.ptr b g i o) v
 | sl (b g i len : Nat) (v : Value) (ν : Ψ) (hb : H[b]? = some ν)
  (h : match ν with
   | .dead => True
   | .box _ => False
   | .iter _ _ => False
   | .arr _ s z gen l => g ≤ gen ∧ (g = gen → i + len ≤ l.length ∧
    ((z = true ∧ l.length = 0 ∧ v = .slice none 0 0) ∨ (z = false ∧ l.length = 0 ∧ ∃ (ad : Addr), v = .slice (some ad) 0 0) ∨
     (¬ (z = true ∧ l.length = 0) ∧ ∃ cb cap off, c.G b = some cb ∧ v = .slice (some ⟨cb, off, none⟩) len cap ∧ (i + cap) * s = dI w cb ∧ len ≤ cap ∧ i + cap ≤ maxLen ∧ (cap = 0 ∨ off = i * s) ∧ (i = 0 → off = 0)))))
  (hv : ∃ a n m, v = .slice a n m := by exact ⟨_, _, _, rfl⟩) : RA w c H (.sl b g i len) v
 | agg (cs : List AV) (vs : Array Value) (hl : cs.length = vs.size) (h1 : ∀ (i : Nat) x, cs[i]? = some x → x.one = true)
  (hr : ∀ (i : Nat) x v, cs[i]? = some x → vs[i]? = some v → RA w c H x v) : RA w c H (.agg cs) (.agg vs)
 | ao (cs : List AV) (vs : Array Value) (hl : cs.length = vs.size)
  (hr : ∀ (i : Nat) x v, cs[i]? = some x → vs[i]? = some v → RA w c H x v) : RA w c H (.ao cs) (.tuple vs)
 | fn (f : Fn) (first captured : List AV) (a b : Array Value) (ha : first.length = a.size) (hb : captured.length = b.size)
  (cY : ∀ (i : Nat) x v, first[i]? = some x → a[i]? = some v → RA w c H x v)
  (yt : ∀ (i : Nat) x v, captured[i]? = some x → b[i]? = some v → RA w c H x v) : RA w c H (.fn f first captured) (.func f a b)
 | bY (t : TypeId) (x : AV) (v : Value) (h : RA w c H x v) : RA w c H (.bY t x) (.iface t v)
 | dc (ad : Addr) : RA w c H .dc (.slice (some ad) 0 0)
 | bj (v) : RA w c H .bj v
def dh (w : World) (c : Cx) (H : AH) (s : Nat) (l : Sq) (arr : Array Value) : Prop :=
 ∀ (i : Nat) x, l.get i = some x → x.cells.length = s ∧ ∀ (j : Nat) y, x.cells[j]? = some y → ∃ v, arr[i * s + j]? = some v ∧ y.one = true ∧ RA w c H y v ∧ v.oneCell' = true
theorem T.dp (x : T) : (AV.t x).cells = x.cells.map .t := by cases x <;> rfl
theorem dh.ts {w c H s} {l : List T} {arr : Array Value} : dh w c H s (.ts l) arr ↔
 ∀ (i : Nat) x, l[i]? = some x → x.cells.length = s ∧ ∀ (j : Nat) y, x.cells[j]? = some y → ∃ v, arr[i * s + j]? = some v ∧ y.one = true ∧ RT w (c.M H) y v ∧ v.oneCell' = true := by
 constructor
 ·intro h i x hi
  obtain ⟨h1, h2⟩ := h i (.t x) (by simp [Sq.get, hi])
  rw [T.dp] at h1 h2
  refine ⟨by simpa using h1, fun j y hj => ?_⟩
  obtain ⟨v, a1, a2, a3, a4⟩ := h2 j (.t y) (by simp [hj])
  cases a3 with | t _ _ a3 => exact ⟨v, a1, a2, a3, a4⟩
 ·intro h i x hi
  simp only [Sq.get, Option.map_eq_some_iff] at hi
  obtain ⟨x, hi, rfl⟩ := hi
  obtain ⟨h1, h2⟩ := h i x hi
  rw [T.dp]
  refine ⟨by simpa using h1, fun j y hj => ?_⟩
  simp only [List.getElem?_map, Option.map_eq_some_iff] at hj
  obtain ⟨y, hj, rfl⟩ := hj
  obtain ⟨v, a1, a2, a3, a4⟩ := h2 j y hj
  exact ⟨v, a1, a2, .t _ _ a3, a4⟩
theorem Sq.tq {l : Sq} {i : Nat} {x : AV} (h : l.get i = some x) : i < l.length := by
 cases l with
 | ts l =>
  simp only [Sq.get, Option.map_eq_some_iff] at h
  obtain ⟨_, h, _⟩ := h
  rcases Nat.lt_or_ge i l.length with k | k
  ·exact k
  ·simp [List.getElem?_eq_none k] at h
 | vs l =>
  simp only [Sq.get] at h
  rcases Nat.lt_or_ge i l.length with k | k
  ·exact k
  ·simp [List.getElem?_eq_none k] at h
theorem Sq.GD {l : Sq} {i : Nat} (h : i < l.length) : ∃ x, l.get i = some x := by
 cases l with
 | ts l => exact ⟨.t (l[i]'h), by simp only [Sq.get]; rw [List.getElem?_eq_getElem (show i < l.length from h)]; rfl⟩
 | vs l => exact ⟨l[i]'h, List.getElem?_eq_getElem (show i < l.length from h)⟩
theorem Sq.jo (l : Sq) (i n : Nat) : (l.part i n).length = min n (l.length - i) := by
 cases l <;> simp [Sq.part, Sq.length]
theorem Sq.oR (l : Sq) (i n k : Nat) : (l.part i n).get k = if k < n then l.get (i + k) else none := by
 cases l <;> simp only [Sq.part, Sq.get, List.getElem?_take, List.getElem?_drop] <;> split <;> simp
theorem Sq.ez (a b : Sq) : (a.jT b).length = a.length + b.length := by
 cases a <;> cases b <;> simp [Sq.jT, Sq.length]
theorem Sq.xK (a b : Sq) (k : Nat) : (a.jT b).get k = if k < a.length then a.get k else b.get (k - a.length) := by
 by_cases h : k < a.length
 ·rw [if_pos h]
  cases a <;> cases b <;> simp only [Sq.jT, Sq.get, Sq.length] at h ⊢ <;> rw [List.getElem?_append_left (by simpa using h)] <;> simp
 ·rw [if_neg h]
  cases a <;> cases b <;> simp only [Sq.jT, Sq.get, Sq.length] at h ⊢ <;> rw [List.getElem?_append_right (by simpa using h)] <;> simp
theorem Sq.put_eq (l : Sq) (o : Nat) (news : Sq) : (l.put o news).length = ((l.part 0 o).jT news |>.jT (l.part (o + news.length) l.length)).length ∧ ∀ k, (l.put o news).get k = ((l.part 0 o).jT news |>.jT (l.part (o + news.length) l.length)).get k := by
 cases l with
 | vs l => exact ⟨rfl, fun _ => rfl⟩
 | ts l =>
  cases news with
  | vs n => exact ⟨rfl, fun _ => rfl⟩
  | ts n =>
   have e : l.drop (o + n.length) = (l.drop (o + n.length)).take l.length := (List.take_of_length_le (by simp)).symm
   constructor
   ·simp only [Sq.put, Sq.part, Sq.jT, Sq.length, List.drop_zero]
    rw [← e]
   ·intro k
    simp only [Sq.put, Sq.part, Sq.jT, Sq.get, Sq.length, List.drop_zero]
    rw [← e]
theorem Sq.eY {l news : Sq} {o : Nat} (h : o + news.length ≤ l.length) : (l.put o news).length = l.length := by
 rw [(Sq.put_eq l o news).1, Sq.ez, Sq.ez, Sq.jo, Sq.jo]; omega
theorem Sq.K9 {l news : Sq} {o : Nat} (h : o + news.length ≤ l.length) (k : Nat) :
 (l.put o news).get k = if k < o then l.get k else if k < o + news.length then news.get (k - o) else l.get k := by
 rw [(Sq.put_eq l o news).2, Sq.xK, Sq.xK, Sq.ez, Sq.jo, Sq.oR, Sq.oR]
 have e : min o (l.length - 0) = o := by omega
 rw [e]
 by_cases h1 : k < o
 ·rw [if_pos (by omega), if_pos h1, if_pos h1, if_pos h1, Nat.zero_add]
 ·by_cases h2 : k < o + news.length
  ·rw [if_pos h2, if_neg h1, if_neg h1, if_pos h2]
  ·rw [if_neg h2, if_neg h1, if_neg h2, show o + news.length + (k - (o + news.length)) = k by omega]
   split
   ·rfl
   ·rename_i h3
    cases l with
    | ts l => simp only [Sq.length, Sq.get] at h3 ⊢; rw [List.getElem?_eq_none (by omega)]; rfl
    | vs l => simp only [Sq.length, Sq.get] at h3 ⊢; rw [List.getElem?_eq_none (by omega)]
structure HS (w : World) (c : Cx) (H : AH) (B : Nat) : Prop where
 inj : ∀ b b' cb, c.G b = some cb → c.G b' = some cb → b = b'
 base : ∀ b cb, c.G b = some cb → B ≤ cb ∧ cb < w.heap.size
 fb : ∀ cb, c.F cb → cb < w.heap.size ∧ ∀ b, c.G b ≠ some cb
 hB : B ≤ w.heap.size
 jB : ∀ b cb, c.G b = some cb → b < H.length
 box : ∀ b cb cells, H[b]? = some (.box cells) → c.G b = some cb → ∃ arr e, w.heap[cb]? = some (.cells arr e (0, 0)) ∧ arr.size = cells.length ∧
  ∀ (j : Nat) x v, cells[j]? = some x → arr[j]? = some v → x.one = true ∧ RA w c H x v ∧ v.oneCell' = true
 arr : ∀ b cb e s z g l, H[b]? = some (.arr e s z g l) → c.G b = some cb → ∃ arr cap, w.heap[cb]? = some (.cells arr e (0, 0)) ∧ arr.size = cap * s ∧ (l.length ≤ cap ∧ (g % 2 = 1 → l.length = cap)) ∧ cap ≤ maxLen ∧
  dh w c H s l arr
 iter : ∀ b cb s p, H[b]? = some (.iter s p) → c.G b = some cb → ∃ bs : ByteArray, w.heap[cb]? = some (.stringIter bs p) ∧ bs.data.toList = s
def Ψ.goes (w : World) (c : Cx) (w' : World) (c' : Cx) (b : Nat) : Ψ → Ψ → Prop
 | _, .dead => True
 | .box cs, .box jC => cs.length = jC.length ∧ ∀ cb, c.G b = some cb → c'.G b = some cb
 | .iter s _, .iter s' _ => s' = s ∧ ∀ cb, c.G b = some cb → c'.G b = some cb
 | .arr e s z g l, .arr e' s' z' g' l' => e' = e ∧ s' = s ∧ z' = z ∧ l.length ≤ l'.length ∧ g ≤ g' ∧ (g = g' → l'.length = l.length ∧ ∀ cb, c.G b = some cb → c'.G b = some cb ∧ dI w' cb = dI w cb)
 | _, _ => False
structure Ew (w : World) (c : Cx) (H : AH) (w' : World) (c' : Cx) (H' : AH) : Prop where
 F : c'.F = c.F
 size : w.heap.size ≤ w'.heap.size
 ν : ∀ b ν, H[b]? = some ν → ∃ az, H'[b]? = some az ∧ Ψ.goes w c w' c' b ν az
 qn : ∀ cb, c'.O H' cb → c.O H cb ∨ w.heap.size ≤ cb
 mem : ∀ cb, cb < w.heap.size → ¬ c.O H cb → w'.heap[cb]? = w.heap[cb]?
structure Ev (w : World) (c : Cx) (H : AH) (w' : World) (c' : Cx) (H' : AH) : Prop where
 F : c'.F = c.F
 size : w.heap.size ≤ w'.heap.size
 ν : ∀ b ν, H[b]? = some ν → ∃ az, H'[b]? = some az ∧ Ψ.goes w c w' c' b ν az
 qn : ∀ cb, c'.O H' cb → c.O H cb ∨ w.heap.size ≤ cb
 mem : ∀ cb, cb < w.heap.size → ¬ c.O H cb → w'.heap[cb]? = w.heap[cb]?
 late : ∀ b ν, H[b]? = some ν → ν.fix = true → c.G b = none → c'.G b = none
theorem Ev.w {w c H w' c' H'} (h : Ev w c H w' c' H') : Ew w c H w' c' H' := ⟨h.F, h.size, h.ν, h.qn, h.mem⟩
theorem Ew.Ou {w c H w' c' H'} (h : Ew w c H w' c' H') (cb : Nat) (hm : c'.M H' cb) : c.M H cb ∨ w.heap.size ≤ cb := by
 rcases hm with hm | hm
 ·rw [h.F] at hm; exact .inl (.inl hm)
 ·exact (h.qn cb hm).imp .inr id
theorem Ew.PZ {w c H w' c' H'} (h : Ew w c H w' c' H') (cb : Nat) (χ : cb < w.heap.size) (hm : ¬ c.M H cb) : w'.heap[cb]? = w.heap[cb]? := h.mem cb χ fun k => hm (.inr k)
theorem Ew.rt {w c H w' c' H'} (h : Ew w c H w' c' H') {x : T} {v : Value} (hr : RT w (c.M H) x v) : RT w' (c'.M H') x v :=
 hr.mono (fun b χ hM => ⟨h.PZ b χ hM, fun hm => (h.Ou b hm).elim hM (fun h => by omega)⟩)
theorem Ev.rt {w c H w' c' H'} (h : Ev w c H w' c' H') {x : T} {v : Value} (hr : RT w (c.M H) x v) : RT w' (c'.M H') x v := h.w.rt hr
theorem RA.ew {w c H w' c' H'} (h : Ew w c H w' c' H') {x : AV} {v : Value} (hr : RA w c H x v) : RA w' c' H' x v := by
 induction hr with
 | t x v hx => exact .t x v (h.rt hx)
 | ptr b g i o v ν hb hm hv =>
  obtain ⟨az, aC, hk⟩ := h.ν b ν hb
  refine .ptr b g i o v az aC ?_ hv
  cases az with
  | dead => trivial
  | box jC =>
   cases ν with
   | dead => exact hk.elim
   | arr => exact hk.elim
   | iter => exact hk.elim
   | box cs => obtain ⟨cb, h1, h2⟩ := hm; exact ⟨cb, hk.2 cb h1, h2⟩
  | iter s' p' =>
   cases ν with
   | dead => exact hk.elim
   | arr => exact hk.elim
   | box => exact hk.elim
   | iter s p => obtain ⟨cb, h1, h2⟩ := hm; exact ⟨cb, hk.2 cb h1, h2⟩
  | arr e' s' z' g' l' =>
   cases ν with
   | dead => exact hk.elim
   | box => exact hk.elim
   | iter => exact hk.elim
   | arr e s z g0 l =>
    obtain ⟨rfl, rfl, rfl, _, hg, hk⟩ := hk
    refine ⟨Nat.le_trans hm.1 hg, fun he => ?_⟩
    have : g0 = g' := by have := hm.1; omega
    obtain ⟨cb, h1, h2⟩ := hm.2 (by omega)
    exact ⟨cb, ((hk this).2 cb h1).1, h2⟩
 | sl b g i len v ν hb hm hv =>
  obtain ⟨az, aC, hk⟩ := h.ν b ν hb
  refine .sl b g i len v az aC ?_ hv
  cases az with
  | dead => trivial
  | box jC => cases ν <;> first | exact hk.elim | exact hm
  | iter s' p' => cases ν <;> first | exact hk.elim | exact hm
  | arr e' s' z' g' l' =>
   cases ν with
   | dead => exact hk.elim
   | box => exact hk.elim
   | iter => exact hk.elim
   | arr e s z g0 l =>
    obtain ⟨rfl, rfl, rfl, _, hg, hk⟩ := hk
    refine ⟨Nat.le_trans hm.1 hg, fun he => ?_⟩
    have fq : g0 = g' := by have := hm.1; omega
    obtain ⟨hl, hk⟩ := hk fq
    obtain ⟨h1, h2⟩ := hm.2 (by omega)
    refine ⟨by omega, ?_⟩
    have AI : l.length = 0 ↔ l'.length = 0 := by rw [hl]
    rcases h2 with ⟨z1, l1, v1⟩ | ⟨z1, l1, v1⟩ | ⟨z1, cb, cap, off, h3, h4, h5, h6⟩
    ·exact .inl ⟨z1, AI.1 l1, v1⟩
    ·exact .inr (.inl ⟨z1, AI.1 l1, v1⟩)
    ·exact .inr <| .inr ⟨fun hh => z1 ⟨hh.1, AI.2 hh.2⟩, cb, cap, off, (hk cb h3).1, h4, by rw [(hk cb h3).2]; exact h5, h6⟩
 | agg cs vs hl h1 _ ih => exact .agg cs vs hl h1 ih
 | ao cs vs hl _ ih => exact .ao cs vs hl ih
 | fn f a b x y ha hb _ _ lG lF => exact .fn f a b x y ha hb lG lF
 | bY t x v _ ih => exact .bY t x v ih
 | dc ad => exact .dc ad
 | bj v => exact .bj v
theorem RA.ev {w c H w' c' H'} (h : Ev w c H w' c' H') {x : AV} {v : Value} (hr : RA w c H x v) : RA w' c' H' x v := hr.ew h.w
theorem Ev.refl (w : World) (c : Cx) (H : AH) : Ev w c H w c H := by
 refine ⟨rfl, Nat.le_refl _, fun b ν hb => ⟨ν, hb, ?_⟩, fun _ h => .inl h, fun _ _ _ => rfl, fun _ _ _ _ h => h⟩
 cases ν with
 | dead => trivial
 | box cs => exact ⟨rfl, fun _ h => h⟩
 | iter s p => exact ⟨rfl, fun _ h => h⟩
 | arr => exact ⟨rfl, rfl, rfl, Nat.le_refl _, Nat.le_refl _, fun _ => ⟨rfl, fun _ h => ⟨h, rfl⟩⟩⟩
theorem Jn {w c w' c' b} {ν az : Ψ} (h : Ψ.goes w c w' c' b ν az) (hf : ν.fix = true) : az.fix = true := by
 cases az with
 | dead => rfl
 | box => rfl
 | iter => rfl
 | arr e' s' z' g' l' =>
  cases ν with
  | dead => exact h.elim
  | box => exact h.elim
  | iter => exact h.elim
  | arr e s z g l =>
   obtain ⟨_, _, rfl, hl, _⟩ := h
   simp only [Ψ.fix, Bool.and_eq_true, Bool.not_eq_true', decide_eq_true_eq] at hf ⊢
   exact ⟨hf.1, by omega⟩
theorem Ev.Ox {w c H w1 c1 H1 w2 c2 H2} (h : Ev w c H w1 c1 H1) (k : Ev w1 c1 H1 w2 c2 H2) : ∀ b ν, H[b]? = some ν → ν.fix = true → c.G b = none → c2.G b = none := by
 intro b ν hb ha hg
 obtain ⟨xH, kt, cI⟩ := h.ν b ν hb
 exact k.late b xH kt (Jn cI ha) (h.late b ν hb ha hg)
theorem Ew.trans {w c H w1 c1 H1 w2 c2 H2} (h : Ew w c H w1 c1 H1) (k : Ew w1 c1 H1 w2 c2 H2) : Ew w c H w2 c2 H2 := by
 refine ⟨k.F.trans h.F, Nat.le_trans h.size k.size, fun b ν hb => ?_, fun cb hm => ?_, fun cb χ hm => ?_⟩
 ·obtain ⟨xH, kt, cI⟩ := h.ν b ν hb
  obtain ⟨JN, iz, dA⟩ := k.ν b xH kt
  refine ⟨JN, iz, ?_⟩
  cases JN with
  | dead => trivial
  | box TH =>
   cases xH with
   | dead => exact dA.elim
   | arr => exact dA.elim
   | iter => exact dA.elim
   | box TI =>
    cases ν with
    | dead => exact cI.elim
    | arr => exact cI.elim
    | iter => exact cI.elim
    | box cs => exact ⟨cI.1.trans dA.1, fun cb hc => dA.2 cb (cI.2 cb hc)⟩
  | iter s2 p2 =>
   cases xH with
   | dead => exact dA.elim
   | arr => exact dA.elim
   | box => exact dA.elim
   | iter s1 p1 =>
    cases ν with
    | dead => exact cI.elim
    | arr => exact cI.elim
    | box => exact cI.elim
    | iter s p => exact ⟨dA.1.trans cI.1, fun cb hc => dA.2 cb (cI.2 cb hc)⟩
  | arr e2 s2 z2 g2 l2 =>
   cases xH with
   | dead => exact dA.elim
   | box => exact dA.elim
   | iter => exact dA.elim
   | arr e1 s1 z1 g1 l1 =>
    cases ν with
    | dead => exact cI.elim
    | box => exact cI.elim
    | iter => exact cI.elim
    | arr e s z g l =>
     obtain ⟨rfl, rfl, rfl, a0, a1, a2⟩ := cI
     obtain ⟨rfl, rfl, rfl, b0, b1, b2⟩ := dA
     refine ⟨rfl, rfl, rfl, Nat.le_trans a0 b0, Nat.le_trans a1 b1, fun he => ?_⟩
     have e1 : g = g1 := by omega
     have e2 : g1 = g2 := by omega
     obtain ⟨a3, a4⟩ := a2 e1
     obtain ⟨b3, b4⟩ := b2 e2
     refine ⟨by omega, fun cb hc => ?_⟩
     obtain ⟨a5, a6⟩ := a4 cb hc
     obtain ⟨b5, b6⟩ := b4 cb a5
     exact ⟨b5, b6.trans a6⟩
 ·rcases k.qn cb hm with h1 | h1
  ·exact h.qn cb h1
  ·exact .inr (Nat.le_trans h.size h1)
 ·have h1 := h.mem cb χ hm
  have h2 : ¬ c1.O H1 cb := fun hh => (h.qn cb hh).elim hm (fun h => by omega)
  exact (k.mem cb (Nat.lt_of_lt_of_le χ h.size) h2).trans h1
theorem Ev.of {w c H w' c' H'} (h : Ew w c H w' c' H') (hl : ∀ b ν, H[b]? = some ν → ν.fix = true → c.G b = none → c'.G b = none) : Ev w c H w' c' H' := ⟨h.F, h.size, h.ν, h.qn, h.mem, hl⟩
theorem Ev.trans {w c H w1 c1 H1 w2 c2 H2} (h : Ev w c H w1 c1 H1) (k : Ev w1 c1 H1 w2 c2 H2) : Ev w c H w2 c2 H2 := .of (h.w.trans k.w) (Ev.Ox h k)
theorem Ev.L8 {w c H w1 c1 H1 w2 c2 H2} (h : Ev w c H w1 c1 H1) (k : Ew w1 c1 H1 w2 c2 H2) (hl : ∀ b, b < H.length → c1.G b = none → c2.G b = none) : Ev w c H w2 c2 H2 :=
 .of (h.w.trans k) fun b ν hb hf hg => hl b (by
  rcases Nat.lt_or_ge b H.length with h1 | h1
  ·exact h1
  ·simp [List.getElem?_eq_none h1] at hb) (h.late b ν hb hf hg)
end Go.Proofs.YtcogcbplmkcojaaGreatDoor
namespace Go.Proofs.YtcogcbplmkcojaaGreatDoor
set_option linter.unusedVariables false
def Aa : Value → Option T
 | .bool b => some (.bool b)
 | .int k n => some (.int k n)
 | .string s => some (.str s.data.toList)
 | .pointer none => some .ju
 | .slice none 0 0 => some .av
 | .nilFunc => some .kQ
 | .nilIface => some .kP
 | _ => none
def my : List Value → Option (List T)
 | [] => some []
 | v :: r => match Aa v, my r with | some x, some l => some (x :: l) | _, _ => none
def O1 : Value → Option T
 | .agg cs => (my cs.toList).map .agg
 | v => Aa v
structure gq where
 d : TypeDesc
 size : Nat
 bytes : Nat
 zero : Option (List T)
 Jt : Prop
structure a9 where
 f : TypeId → Option gq
 stop : Bool
instance : CoeFun a9 (fun _ => TypeId → Option gq) := ⟨a9.f⟩
def vV (P : Program) : TypeId → Option gq := fun t =>
 match P.info? t, P.underlying t with
 | some i, some d => some { d, size := i.size, bytes := i.bytes, zero := i.zero.bind fun z => my z.cells.toList, Jt := P.stoodInHeld t = false ∧ P.eqGuardType P.depth t = false }
 | _, _ => none
def Ow (P : Program) : a9 := ⟨vV P, false⟩
def FJ (P : Program) : a9 := ⟨vV P, true⟩
structure gq.fits (P : Program) (t : TypeId) (y : gq) : Prop where
 d : P.underlying t = some y.d
 DA : ∃ i, P.info? t = some i ∧ i.size = y.size ∧ i.bytes = y.bytes ∧ ∀ l, y.zero = some l → ∃ z, i.zero = some z ∧ my z.cells.toList = some l
 eq : y.Jt → P.stoodInHeld t = false ∧ P.eqGuardType P.depth t = false
def bi (P : Program) (tab : a9) : Prop := ∀ t y, tab t = some y → y.fits P t
theorem FK (P : Program) : ∀ t y, vV P t = some y → y.fits P t := by
 intro t y h
 unfold vV at h
 split at h
 ·rename_i i d hi hd
  cases h
  refine ⟨hd, ⟨i, hi, rfl, rfl, fun l hl => ?_⟩, fun h => h⟩
  cases hz : i.zero with
  | none => simp [hz] at hl
  | some z => exact ⟨z, rfl, by simpa [hz] using hl⟩
 ·cases h
theorem FI (P : Program) : bi P (FJ P) := FK P
def gq.isAgg (y : gq) : Bool :=
 match y.d with
 | .struct _ => true
 | .array _ _ => true
 | _ => false
abbrev Br (c : Bool) (p q : Prop) : Prop := @Bool.rec (fun _ => Prop) q p c
abbrev Ck (c : Bool) (p : Prop) : Prop := @Bool.rec (fun _ => Prop) False p c
abbrev aY {α : Type} (o : Option α) (K : α → Prop) : Prop := @Option.rec α (fun _ => Prop) False K o
theorem U {c : Bool} {p q : Prop} (h : c = true → p) (k : c = false → q) : Br c p q := by
 cases c
 ·exact k rfl
 ·exact h rfl
theorem ε {c : Bool} {p : Prop} (h : c = true) (k : p) : Ck c p := by subst h; exact k
theorem ξ {α : Type} {o : Option α} {K : α → Prop} {a : α} (h : o = some a) (k : K a) : aY o K := by subst h; exact k
theorem ap {c : Bool} {p : Prop} : Ck c p ↔ c = true ∧ p := by cases c <;> simp
theorem Γ {α : Type} {o : Option α} {K : α → Prop} : aY o K ↔ ∃ a, o = some a ∧ K a := by cases o <;> simp
theorem ku {c : Bool} {p q : Prop} : Br c p q ↔ (c = true ∧ p) ∨ (c = false ∧ q) := by cases c <;> simp
def gu (st : Bool) (n : Int) : Option Int :=
 match st with
 | false => some n
 | true => match Nat.beq n.natAbs n.natAbs with | true => some n | false => none
theorem H8 (st : Bool) (n : Int) : gu st n = some n := by
 cases st with
 | false => rfl
 | true => simp only [gu, Nat.beq_refl]
theorem oM {st : Bool} {n : Int} {K : Int → Prop} : aY (gu st n) K ↔ K n := by rw [H8]
theorem δ {st : Bool} {e n : Int} {K : Int → Prop} (h : e = n) (k : K n) : aY (gu st e) K := by subst h; exact oM.2 k
def lk : List (Nat × AV) → Nat → AV
 | [], _ => .bj
 | (a, v) :: r, k => match Nat.beq a k with | true => v | false => lk r k
structure St where
 env : List (Nat × AV)
 H : AH
def Dp (v : Value) : AV :=
 match O1 v with
 | some x => .t x
 | none => .bj
def aI (env : List (Nat × AV)) : Operand → AV
 | .tmp t => lk env t
 | .const v => Dp v
 | .global _ => .bj
 | .func f => .t (.fn (.func f) [] [])
def isConst : Operand → Bool
 | .const _ => true
 | _ => false
def St.put (s : St) (d : Option Tmp) (v : AV) (H : AH) : St :=
 match d with
 | some d => ⟨(d, v) :: s.env, H⟩
 | none => ⟨s.env, H⟩
def xm : List Nat → Nat → (Nat → Prop) → Prop
 | [], n, K => K n
 | k :: r, n, K => match Nat.beq n k with | true => K k | false => xm r n K
def yG (n : Nat) (K : Nat → Prop) : Prop := xm [0, 1, 2, 3, 4, 5, 6, 7, 8, 9, 10, 11, 12, 13, 14, 15, 16, 17, 18, 19, 20, 21, 22, 23, 24, 25, 26, 27, 28, 29, 30, 31, 32] n K
def PL (k : IntKind) (K : IntKind → Prop) : Prop :=
 match k with
 | .i8 => K .i8 | .i16 => K .i16 | .i32 => K .i32 | .i64 => K .i64 | .u8 => K .u8 | .u16 => K .u16 | .u32 => K .u32 | .u64 => K .u64
def NS (x : T) (K : T → Prop) : Prop :=
 match x with
 | .bool b => K (.bool b)
 | .int k n => PL k fun k => K (.int k n)
 | .str s => K (.str s)
 | .ju => K .ju | .av => K .av | .kQ => K .kQ | .kP => K .kP
 | .cO cs => K (.cO cs)
 | .vec s l => K (.vec s l)
 | .agg cs => K (.agg cs)
 | .fn f a b => K (.fn f a b)
 | .bY t v => K (.bY t v)
 | .κ s l => K (.κ s l)
def Ct (x : AV) (K : AV → Prop) : Prop :=
 match x with
 | .t x => NS x fun x => K (.t x)
 | .ptr b g i o => yG b fun b => yG g fun g => yG o fun o => K (.ptr b g i o)
 | .sl b g i n => yG b fun b => yG g fun g => K (.sl b g i n)
 | .agg cs => K (.agg cs)
 | .ao vs => K (.ao vs)
 | .fn f a b => K (.fn f a b)
 | .bY t v => K (.bY t v)
 | .own e s z l => K (.own e s z l)
 | .dc => K .dc
 | .bj => K .bj
def yH : List AV → (List AV → Prop) → Prop
 | [], K => K []
 | x :: r, K => Ct x fun x => yH r fun r => K (x :: r)
def NQ (x : AV) (K : AV → Prop) : Prop :=
 match x with
 | .agg cs => yH cs fun cs => K (.agg cs)
 | .ao cs => yH cs fun cs => K (.ao cs)
 | .fn f a b => yH a fun a => yH b fun b => K (.fn f a b)
 | x => Ct x K
def Cs (b : Ψ) (K : Ψ → Prop) : Prop :=
 match b with
 | .dead => K .dead
 | .box cells => yH cells fun cells => K (.box cells)
 | .arr e s z g l => yG s fun s => yG g fun g => (match z with | true => K (.arr e s true g l) | false => K (.arr e s false g l))
 | .iter s p => K (.iter s p)
def Kv : AH → (AH → Prop) → Prop
 | [], K => K []
 | b :: r, K => Cs b fun b => Kv r fun r => K (b :: r)
def ma (s : St) (d : Option Tmp) (v : AV) (H : AH) (K : St → Prop) : Prop :=
 NQ v fun v => Kv H fun H =>
 match s, d with
 | ⟨env, _⟩, some d => K ⟨(d, v) :: env, H⟩
 | ⟨env, _⟩, none => K ⟨env, H⟩
theorem xl (n : Nat) (K : Nat → Prop) : ∀ l : List Nat, xm l n K = K n
 | [] => rfl
 | k :: r => by
  simp only [xm]
  cases h : Nat.beq n k with
  | true => rw [Nat.eq_of_beq_eq_true h]
  | false => exact xl n K r
theorem GI (n : Nat) (K : Nat → Prop) : yG n K = K n := xl n K _
theorem NT (k : IntKind) (K : IntKind → Prop) : PL k K = K k := by cases k <;> rfl
theorem NR (x : T) (K : T → Prop) : NS x K = K x := by cases x <;> simp only [NS, NT]
theorem wD (x : AV) (K : AV → Prop) : Ct x K = K x := by
 cases x <;> simp only [Ct, NR, GI]
theorem A0 : ∀ (l : List AV) (K : List AV → Prop), yH l K = K l
 | [], K => rfl
 | x :: r, K => by simp only [yH, wD, A0 r]
theorem NP (x : AV) (K : AV → Prop) : NQ x K = K x := by
 cases x <;> simp only [NQ, wD, A0]
theorem GK (b : Ψ) (K : Ψ → Prop) : Cs b K = K b := by
 cases b with
 | dead => rfl
 | box cells => simp only [Cs, A0]
 | arr e s z g l => cases z <;> simp only [Cs, GI]
 | iter s p => simp only [Cs]
theorem GJ : ∀ (l : AH) (K : AH → Prop), Kv l K = K l
 | [], K => rfl
 | x :: r, K => by simp only [Kv, GK, GJ r]
theorem vG (s : St) (d : Option Tmp) (v : AV) (H : AH) (K : St → Prop) : ma s d v H K = K (s.put d v H) := by
 cases d <;> simp only [ma, NP, GJ, St.put]
def ET {α : Type} : List α → (List α → Prop) → Prop
 | [], K => K []
 | x :: r, K => ET r fun r => K (x :: r)
def NO (x : AV) (K : AV → Prop) : Prop :=
 match x with
 | .agg cs => ET cs fun cs => K (.agg cs)
 | x => Ct x K
def EW (b : Ψ) (K : Ψ → Prop) : Prop :=
 match b with
 | .box cells => ET cells fun cells => K (.box cells)
 | .dead => K .dead
 | .arr e s z g l => K (.arr e s z g l)
 | .iter s p => K (.iter s p)
def JT : AH → (AH → Prop) → Prop
 | [], K => K []
 | b :: r, K => EW b fun b => JT r fun r => K (b :: r)
def B1 : AH → (AH → Prop) → Prop
 | [], K => K []
 | b :: r, K =>
  match r with
  | [] => Cs b fun b => K [b]
  | _ :: _ => EW b fun b => B1 r fun r => K (b :: r)
def QC : Op → Nat
 | .move _ => 1
 | .load _ _ => 1
 | .fieldAddr _ _ _ => 1
 | .field _ _ _ => 1
 | .indexAddr _ _ _ => 1
 | .index _ _ _ => 1
 | .binOp _ _ _ _ _ => 1
 | .unOp _ _ _ => 1
 | .convert _ _ _ => 1
 | .slice _ _ _ _ _ => 1
 | .pick _ _ _ => 1
 | .store _ _ _ => 2
 | .alloc _ => 3
 | .box _ _ => 3
 | _ => 0
def zG (o : Op) (s : St) (d : Option Tmp) (v : AV) (H : AH) (K : St → Prop) : Prop :=
 match QC o with
 | 1 => NO v fun v => match s, d with | ⟨env, _⟩, some d => K ⟨(d, v) :: env, H⟩ | ⟨env, _⟩, none => K ⟨env, H⟩
 | 2 => JT H fun H => match s, d with | ⟨env, _⟩, some d => K ⟨(d, v) :: env, H⟩ | ⟨env, _⟩, none => K ⟨env, H⟩
 | 3 => Ct v fun v => B1 H fun H => match s, d with | ⟨env, _⟩, some d => K ⟨(d, v) :: env, H⟩ | ⟨env, _⟩, none => K ⟨env, H⟩
 | _ => ma s d v H K
theorem zI {α : Type} : ∀ (l : List α) (K : List α → Prop), ET l K = K l
 | [], K => rfl
 | x :: r, K => by simp only [ET, zI r]
theorem NN (x : AV) (K : AV → Prop) : NO x K = K x := by cases x <;> simp only [NO, wD, zI]
theorem EV (b : Ψ) (K : Ψ → Prop) : EW b K = K b := by cases b <;> simp only [EW, zI]
theorem EU : ∀ (l : AH) (K : AH → Prop), JT l K = K l
 | [], K => rfl
 | x :: r, K => by simp only [JT, EV, EU r]
theorem ES : ∀ (l : AH) (K : AH → Prop), B1 l K = K l
 | [], K => rfl
 | [x], K => by simp only [B1, GK]
 | x :: y :: r, K => by rw [show B1 (x :: y :: r) K = EW x fun b => B1 (y :: r) fun r => K (b :: r) from rfl, EV]; exact ES (y :: r) _
theorem xh (o : Op) (s : St) (d : Option Tmp) (v : AV) (H : AH) (K : St → Prop) : zG o s d v H K = K (s.put d v H) := by
 unfold zG
 split <;> first | exact vG _ _ _ _ _ | (cases d <;> simp only [NN, EU, ES, wD, St.put])
def Mv : IntKind → Nat
 | .i8 => 0 | .i16 => 1 | .i32 => 2 | .i64 => 3 | .u8 => 4 | .u16 => 5 | .u32 => 6 | .u64 => 7
def fL (a b : IntKind) : Bool := Nat.beq (Mv a) (Mv b)
theorem uY {a b : IntKind} (h : fL a b = true) : a = b := by cases a <;> cases b <;> first | rfl | (simp [fL, Mv] at h)
def kv (op : BinOp) (k : IntKind) (a b : Int) : Int :=
 let x := BitVec.ofInt k.bits a
 let y := BitVec.ofInt k.bits b
 match op with
 | .and => k.wrap ((x &&& y).toNat : Int)
 | .or => k.wrap ((x ||| y).toNat : Int)
 | .xor => k.wrap ((x ^^^ y).toNat : Int)
 | _ => k.wrap ((x &&& ~~~y).toNat : Int)
def zt (st : Bool) (op : BinOp) (k : IntKind) (a : Int) (k' : IntKind) (b : Int) (K : T → Prop) : Prop :=
 match op with
 | .shl => Ck (decide (0 ≤ b)) (aY (gu st (k.wrap (a * 2 ^ (min b.toNat k.bits)))) fun n => K (.int k n))
 | .shr => Ck (decide (0 ≤ b)) (aY (gu st (a.fdiv (2 ^ (min b.toNat k.bits)))) fun n => K (.int k n))
 | .add => Ck (fL k k') (aY (gu st (k.wrap (a + b))) fun n => K (.int k n))
 | .sub => Ck (fL k k') (aY (gu st (k.wrap (a - b))) fun n => K (.int k n))
 | .mul => Ck (fL k k') (aY (gu st (k.wrap (a * b))) fun n => K (.int k n))
 | .quo => Ck (fL k k') (Ck (!decide (b = 0)) (aY (gu st (k.wrap (a.tdiv b))) fun n => K (.int k n)))
 | .rem => Ck (fL k k') (Ck (!decide (b = 0)) (aY (gu st (a.tmod b)) fun n => K (.int k n)))
 | .and => Ck (fL k k') (aY (gu st (kv .and k a b)) fun n => K (.int k n))
 | .or => Ck (fL k k') (aY (gu st (kv .or k a b)) fun n => K (.int k n))
 | .xor => Ck (fL k k') (aY (gu st (kv .xor k a b)) fun n => K (.int k n))
 | .andNot => Ck (fL k k') (aY (gu st (kv .andNot k a b)) fun n => K (.int k n))
 | .eql => Ck (fL k k') (K (.bool (a == b)))
 | .neq => Ck (fL k k') (K (.bool (a != b)))
 | .lss => Ck (fL k k') (K (.bool (decide (a < b))))
 | .leq => Ck (fL k k') (K (.bool (decide (a ≤ b))))
 | .gtr => Ck (fL k k') (K (.bool (decide (a > b))))
 | .geq => Ck (fL k k') (K (.bool (decide (a ≥ b))))
def zl (op : BinOp) (a b : List UInt8) (K : T → Prop) : Prop :=
 match op with
 | .add => Ck (decide (a.length + b.length ≤ 9223372036854775807)) (K (.str (a ++ b)))
 | .eql => K (.bool (a == b))
 | .neq => K (.bool (!(a == b)))
 | .lss => K (.bool (Op.bytesLess a b))
 | .leq => K (.bool (Op.bytesLess a b || a == b))
 | .gtr => K (.bool (!(Op.bytesLess a b || a == b)))
 | .geq => K (.bool (!(Op.bytesLess a b)))
 | _ => False
def NY : T → T → Option Bool
 | .bool a, .bool b => some (a == b)
 | .int k a, .int k' b => match fL k k' with | true => some (a == b) | false => none
 | .str a, .str b => some (a == b)
 | _, _ => none
def tQ : TypeDesc → T → Bool
 | .bool, .bool _ => true
 | .int _, .int _ _ => true
 | .string, .str _ => true
 | _, _ => false
def A7 (tab : a9) (xs ys : List T) : List Field → Option Bool
 | [] => some true
 | f :: r =>
  match tab f.type, xs[f.offset]?, ys[f.offset]? with
  | some y, some a, some b =>
   match tQ y.d a && tQ y.d b && !decide (f.name = "_"), NY a b, A7 tab xs ys r with
   | true, some p, some q => some (p && q)
   | _, _, _ => none
  | _, _, _ => none
def xe : AV → Option T
 | .t x => some x
 | _ => none
def ic : List AV → Option (List T)
 | [] => some []
 | v :: r => match xe v, ic r with | some x, some l => some (x :: l) | _, _ => none
def isNil (H : AH) : AV → Option Bool
 | .t .ju => some true
 | .t .av => some true
 | .t .kQ => some true
 | .t .kP => some true
 | .t (.cO _) => some false
 | .t (.vec _ _) => some false
 | .t (.fn _ _ _) => some false
 | .t (.bY _ _) => some false
 | .fn _ _ _ => some false
 | .bY _ _ => some false
 | .dc => some false
 | .ptr b g _ _ =>
  match H[b]? with
  | some (.box _) => some false
  | some (.arr _ _ _ gen _) => match Nat.beq g gen with | true => some false | false => none
  | _ => none
 | .sl b g _ _ =>
  match H[b]? with
  | some (.arr _ _ z gen l) => match Nat.beq g gen with | true => some (z && Nat.beq l.length 0) | false => none
  | _ => none
 | _ => none
def Ot : TypeDesc → Bool
 | .slice _ => true
 | .pointer _ => true
 | .func _ _ _ => true
 | .interface _ => true
 | _ => false
def jr : TypeDesc → AV → Bool
 | .slice _, .t .av => true
 | .pointer _, .t .ju => true
 | .func _ _ _, .t .kQ => true
 | .interface _, .t .kP => true
 | _, _ => false
def iY : TypeDesc → AV → Bool
 | .slice _, .t .av => true
 | .slice _, .t (.vec _ _) => true
 | .slice _, .sl _ _ _ _ => true
 | .slice _, .dc => true
 | .pointer _, .t .ju => true
 | .pointer _, .t (.cO _) => true
 | .pointer _, .ptr _ _ _ _ => true
 | .func _ _ _, .t .kQ => true
 | .func _ _ _, .t (.fn _ _ _) => true
 | .func _ _ _, .fn _ _ _ => true
 | .interface _, .t .kP => true
 | .interface _, .t (.bY _ _) => true
 | .interface _, .bY _ _ => true
 | _, _ => false
def vf : TypeDesc → Bool
 | .interface _ => true
 | _ => false
def sr (tab : a9) (ty : TypeId) (H : AH) (x y : AV) (yc : Bool) (K : Bool → Prop) : Prop :=
 aY (tab ty) fun i =>
 match x, y with
 | .t (.bool a), .t (.bool b) => Ck (match i.d with | .bool => true | _ => false) (K (a == b))
 | .t (.agg a), .t (.agg b) =>
  match i.d with
  | .struct fs => i.Jt ∧ aY (A7 tab a b fs.toList) K
  | _ => False
 | x, y => Ck (Ot i.d && jr i.d y && iY i.d x && (yc || !vf i.d)) (aY (isNil H x) K)
def iR : AV → AV
 | .agg cs => match ic cs with | some l => .t (.agg l) | none => .agg cs
 | v => v
def rf (tab : a9) (op : BinOp) (ty : TypeId) (H : AH) (x y : AV) (yc : Bool) (K : T → Prop) : Prop :=
 match x, y with
 | .t (.int k a), .t (.int k' b) => zt tab.stop op k a k' b K
 | .t (.str a), .t (.str b) => zl op a b K
 | x, y =>
  match op with
  | .eql => sr tab ty H (iR x) (iR y) yc fun b => K (.bool b)
  | .neq => sr tab ty H (iR x) (iR y) yc fun b => K (.bool (!b))
  | _ => False
def BV (st : Bool) (op : UnOp) (x : AV) (K : T → Prop) : Prop :=
 match op, x with
 | .neg, .t (.int k a) => aY (gu st (k.wrap (0 - a))) fun n => K (.int k n)
 | .xor, .t (.int k a) => aY (gu st (kv .xor k (if k.signed then -1 else k.max) a)) fun n => K (.int k n)
 | .not, .t (.bool b) => K (.bool (!b))
 | _, _ => False
def mZ (y : gq) (cells : List AV) (o : Nat) (K : AV → Prop) : Prop :=
 match y.isAgg with
 | true => Ck (Nat.ble (o + y.size) cells.length) (K (.agg ((cells.drop o).take y.size)))
 | false => aY cells[o]? K
def mY (y : gq) (cells : List T) (o : Nat) (K : T → Prop) : Prop :=
 match y.isAgg with
 | true => Ck (Nat.ble (o + y.size) cells.length) (K (.agg ((cells.drop o).take y.size)))
 | false => aY cells[o]? K
def setAt {α : Type} : List α → Nat → List α → List α
 | [], _, _ => []
 | y :: l, o + 1, xs => y :: setAt l o xs
 | y :: l, 0, [] => y :: l
 | _ :: l, 0, x :: xs => x :: setAt l 0 xs
theorem gM {α : Type} : ∀ (l : List α) (o : Nat), setAt l o [] = l
 | [], _ => rfl
 | y :: l, o + 1 => congrArg (y :: ·) (gM l o)
 | y :: l, 0 => rfl
theorem j3 {α : Type} (x : α) (r : List α) : ∀ (l : List α) (o : Nat), setAt l o (x :: r) = setAt (l.set o x) (o + 1) r
 | [], _ => rfl
 | y :: l, o + 1 => congrArg (y :: ·) (j3 x r l o)
 | y :: l, 0 => rfl
def mO (tab : a9) (ty : TypeId) (H : AH) (a : AV) (K : AV → Prop) : Prop :=
 aY (tab ty) fun y =>
 match a with
 | .t (.cO cells) => mY y cells 0 fun x => K (.t x)
 | .ptr b g i o =>
  match H[b]? with
  | some (.box cells) => mZ y cells o K
  | some (.arr _ _ _ gen (.ts l)) => Ck (Nat.beq g gen) (aY l[i]? fun e => mY y e.cells o fun x => K (.t x))
  | some (.arr _ _ _ gen (.vs l)) => Ck (Nat.beq g gen) (aY l[i]? fun e => mZ y e.cells o K)
  | _ => False
 | _ => False
def setCells (e : T) (o : Nat) (cs : List T) : T :=
 match e with
 | .agg l => .agg (setAt l o cs)
 | _ => match cs with | [c] => c | _ => e
def jH (e : AV) (o : Nat) (cs : List AV) : AV :=
 match e with
 | .agg l => .agg (setAt l o cs)
 | .t (.agg l) => .agg (setAt (l.map .t) o cs)
 | _ => match cs with | [c] => c | _ => e
def zm (tab : a9) (ty : TypeId) (H : AH) (a v : AV) (K : AH → Prop) : Prop :=
 aY (tab ty) fun y =>
 match a with
 | .ptr b g i o =>
  match H[b]? with
  | some (.box cells) => Ck (Nat.beq v.cells.length y.size && Nat.ble (o + y.size) cells.length && v.cells.all AV.one) (K (H.set b (.box (setAt cells o v.cells))))
  | some (.arr e s z gen (.ts l)) =>
   Ck (Nat.beq g gen) (aY l[i]? fun x =>
    match ic v.cells with
    | some cs => Ck (Nat.beq cs.length y.size && Nat.ble (o + y.size) x.cells.length && cs.all T.one) (K (H.set b (.arr e s z gen (.ts (l.set i (setCells x o cs))))))
    | none => Ck (Nat.beq v.cells.length y.size && Nat.ble (o + y.size) x.cells.length && v.cells.all AV.one) (K (H.set b (.arr e s z gen (.vs ((l.map .t).set i (jH (.t x) o v.cells)))))))
  | some (.arr e s z gen (.vs l)) =>
   Ck (Nat.beq g gen) (aY l[i]? fun x =>
    Ck (Nat.beq v.cells.length y.size && Nat.ble (o + y.size) x.cells.length && v.cells.all AV.one) (K (H.set b (.arr e s z gen (.vs (l.set i (jH x o v.cells)))))))
  | _ => False
 | _ => False
def ud (y : gq) (k : Nat) : Option Field :=
 match y.d with
 | .struct fs => fs[k]?
 | _ => none
def fZ (tab : a9) (ty : TypeId) (H : AH) (a : AV) (k : Nat) (K : AV → Prop) : Prop :=
 aY (tab ty) fun y => aY (ud y k) fun f => aY (tab f.type) fun z => Ck (Nat.ble 1 z.size)
 (match a with
  | .t (.cO cells) => K (.t (.cO (cells.drop f.offset)))
  | .ptr b g i o =>
   (match H[b]? with
    | some (.box _) => K (.ptr b g i (o + f.offset))
    | some (.arr _ _ _ gen _) => Ck (Nat.beq g gen) (K (.ptr b g i (o + f.offset)))
    | _ => False)
  | _ => False)
def qw (tab : a9) (ty : TypeId) (a : AV) (k : Nat) (K : AV → Prop) : Prop :=
 aY (tab ty) fun y => aY (ud y k) fun f => aY (tab f.type) fun z =>
 match a with
 | .t (.agg cs) => mY z cs f.offset fun x => K (.t x)
 | .agg cs => mZ z cs f.offset K
 | _ => False
def pc (i : Int) (n : Nat) : Bool := decide (0 ≤ i) && decide (i < (n : Int))
def fY (tab : a9) (ty : TypeId) (H : AH) (a : AV) (ix : AV) (K : AV → Prop) : Prop :=
 aY (tab ty) fun y =>
 match ix with
 | .t (.int _ i) =>
  match y.d, a with
  | .slice e, .t (.vec s l) => aY (tab e) fun z => Ck (Nat.beq s z.size && decide (0 ≤ i)) (aY l[i.toNat]? fun x => K (.t (.cO x.cells)))
  | .slice e, .t (.κ s l) => aY (tab e) fun z => Ck (Nat.beq s z.size && decide (0 ≤ i)) (aY l[i.toNat]? fun x => K (.t (.cO x.cells)))
  | .slice e, .sl b g j len => aY (tab e) fun z =>
   (match H[b]? with
    | some (.arr _ s _ gen _) => Ck (Nat.beq g gen && Nat.beq s z.size && pc i len) (K (.ptr b g (j + i.toNat) 0))
    | _ => False)
  | .array n e, .ptr b g j o => aY (tab e) fun z => Ck (pc i n)
   (match H[b]? with
    | some (.box _) => K (.ptr b g j (o + i.toNat * z.size))
    | some (.arr _ _ _ gen _) => Ck (Nat.beq g gen) (K (.ptr b g j (o + i.toNat * z.size)))
    | _ => False)
  | .array n e, .t (.cO cells) => aY (tab e) fun z => Ck (pc i n) (K (.t (.cO (cells.drop (i.toNat * z.size)))))
  | _, _ => False
 | _ => False
def qv (tab : a9) (ty : TypeId) (a : AV) (ix : AV) (K : AV → Prop) : Prop :=
 aY (tab ty) fun y =>
 match ix with
 | .t (.int _ i) =>
  match y.d, a with
  | .string, .t (.str s) => Ck (decide (0 ≤ i)) (aY s[i.toNat]? fun c => K (.t (.int .u8 c.toNat)))
  | .array n e, .t (.agg cs) => aY (tab e) fun z => Ck (pc i n) (mY z cs (i.toNat * z.size) fun x => K (.t x))
  | .array n e, .agg cs => aY (tab e) fun z => Ck (pc i n) (mZ z cs (i.toNat * z.size) K)
  | _, _ => False
 | _ => False
def fC (v : Option AV) (Jx : Nat) (mz : Nat) (K : Nat → Prop) : Prop :=
 match v with
 | none => K Jx
 | some (.t (.int _ n)) => Ck (decide (0 ≤ n) && decide (n ≤ (mz : Int))) (K n.toNat)
 | _ => False
def room (gen s i n len : Nat) : Nat := match Nat.beq (gen % 2) 1 && Nat.ble 1 s with | true => len - i | false => n
def lm (tab : a9) (ty : TypeId) (H : AH) (a : AV) (lo hi mx : Option AV) (K : AV → Prop) : Prop :=
 aY (tab ty) fun y =>
 match mx with
 | some m =>
  match y.d, lo, hi, m with
  | .slice e, some (.t (.int _ 0)), some (.t (.int _ 0)), .t (.int _ 0) => aY (tab e) fun _ =>
   (match a with
   | .t .av => K (.t .av)
   | .t (.vec _ _) => K .dc
   | .dc => K .dc
   | .sl b g _ _ =>
    (match H[b]? with
     | some (.arr _ _ z gen l) => Ck (Nat.beq g gen) (Br (z && Nat.beq l.length 0) (K (.t .av)) (K .dc))
     | _ => False)
   | _ => False)
  | _, _, _, _ => False
 | none =>
  match y.d, a with
  | .string, .t (.str s) => fC hi s.length s.length fun h => fC lo 0 h fun l => K (.t (.str ((s.drop l).take (h - l))))
  | .slice e, .t (.vec s l) => aY (tab e) fun z => Ck (Nat.beq s z.size) (fC hi l.length l.length fun h => fC lo 0 h fun o => K (.t (.vec s ((l.drop o).take (h - o)))))
  | .slice e, .t .av => aY (tab e) fun _ => fC hi 0 0 fun h => fC lo 0 h fun _ => K (.t .av)
  | .slice e, .t (.κ s l) => aY (tab e) fun z => Ck (Nat.beq s z.size) (fC hi l.length l.length fun h => fC lo 0 h fun o => K (.t (.κ s ((l.drop o).take (h - o)))))
  | .slice e, .sl b g i n => aY (tab e) fun z =>
   (match H[b]? with
    | some (.arr _ s _ gen l) => Ck (Nat.beq g gen && Nat.beq s z.size) (fC hi n (room gen s i n l.length) fun h => fC lo 0 h fun o => K (.sl b g (i + o) (h - o)))
    | _ => False)
  | _, _ => False
def tO (place : Nat → Option (Nat × Nat)) (cells : List AV) : List (Nat × AV) → (AV → Prop) → Prop
 | [], K => K (.agg cells)
 | (k, v) :: r, K => aY (place k) fun p =>
  Ck (Nat.beq v.cells.length p.2 && Nat.ble (p.1 + v.cells.length) cells.length && v.cells.all AV.one) (tO place (setAt cells p.1 v.cells) r K)
def qx (tab : a9) (ty : TypeId) (parts : List (Nat × AV)) (K : AV → Prop) : Prop :=
 aY (tab ty) fun y => aY y.zero fun zs => Ck (zs.all T.one)
 (match y.d with
 | .struct fs => Ck (fs.toList.all fun f => (tab f.type).isSome) (tO (fun k => fs[k]?.bind fun f => (tab f.type).map fun z => (f.offset, z.size)) (zs.map .t) parts K)
 | .array _ e => aY (tab e) fun z => tO (fun k => some (k * z.size, z.size)) (zs.map .t) parts K
 | _ => False)
def dV (s : Nat) (cs : List T) : T :=
 match s, cs with
 | 1, [c] => c
 | _, _ => .agg cs
def tX (s : Nat) (cs : List AV) : AV :=
 match s, cs with
 | 1, [c] => c
 | _, _ => match ic cs with | some l => .t (.agg l) | none => .agg cs
def na (s : Nat) (n : Nat) : List (Nat × AV) → Option (List AV)
 | [] => some []
 | (k, v) :: r =>
  match Nat.beq k n && Nat.beq v.cells.length s && v.cells.all AV.one, na s (n + 1) r with
  | true, some l => some (tX s v.cells :: l)
  | _, _ => none
def mQ (l : List AV) : Sq :=
 match ic l with
 | some l => .ts l
 | none => .vs l
def mP (tab : a9) (ty : TypeId) (len : Nat) (parts : List (Nat × AV)) (H : AH) (K : AV → AH → Prop) : Prop :=
 aY (tab ty) fun y =>
 match y.d with
 | .slice e => aY (tab e) fun z => aY (na z.size 0 parts) fun l =>
  Ck (Nat.beq l.length len && Nat.ble 1 z.size && Nat.ble (len * z.size) 16777216 && z.zero.isSome) (K (.sl H.length 0 0 len) (H ++ [.arr e z.size false 0 (mQ l)]))
 | _ => False
def iN (tab : a9) (src dst : TypeId) (x : AV) (H : AH) (K : AV → Prop) : Prop :=
 aY (tab dst) fun y => aY (tab src) fun w =>
 match y.d, x with
 | .int k, .t (.int _ n) => aY (gu tab.stop (k.wrap n)) fun n => K (.t (.int k n))
 | .string, .t (.str s) => K (.t (.str s))
 | .string, .t .av => (match w.d with | .slice e => aY (tab e) fun z => (match z.d with | .int .u8 => K (.t (.str [])) | _ => False) | _ => False)
 | .string, .t (.vec s l) => (match w.d with
  | .slice e => aY (tab e) fun z => (match z.d with | .int .u8 => Ck (Nat.beq s 1) (∃ bs : List UInt8, l = bs.map (fun b => T.int .u8 (b.toNat : Int)) ∧ K (.t (.str bs))) | _ => False)
  | _ => False)
 | .string, .t (.κ s l) => (match w.d with
  | .slice e => aY (tab e) fun z => (match z.d with | .int .u8 => Ck (Nat.beq s 1) (∃ bs : List UInt8, l = bs.map (fun b => T.int .u8 (b.toNat : Int)) ∧ K (.t (.str bs))) | _ => False)
  | _ => False)
 | .string, .sl b g i n => (match w.d with
  | .slice e => aY (tab e) fun z => (match z.d with
   | .int .u8 => (match H[b]? with
    | some (.arr _ s _ gen (.ts l)) => Ck (Nat.beq g gen && Nat.beq s 1) (∃ bs : List UInt8, (l.drop i).take n = bs.map (fun b => T.int .u8 (b.toNat : Int)) ∧ K (.t (.str bs)))
    | _ => False)
   | _ => False)
  | _ => False)
 | _, _ => False
def ol (tab : a9) (ty : TypeId) (len cap : AV) (H : AH) (K : AV → AH → Prop) : Prop :=
 aY (tab ty) fun y =>
 match y.d, len, cap with
 | .slice e, .t (.int _ n), .t (.int _ c) => aY (tab e) fun z => aY z.zero fun zs =>
  Ck (decide (0 ≤ n) && decide (n ≤ c) && decide (c * (z.bytes : Int) ≤ 140737488355328) && decide (c ≤ 9223372036854775807) && Nat.ble 1 z.size && Nat.beq zs.length z.size && zs.all T.one)
   (Br (decide (n < c)) (K (.sl H.length 1 0 n.toNat) (H ++ [.arr e z.size false 1 (.ts (List.replicate c.toNat (dV z.size zs)))])) (K (.sl H.length 0 0 n.toNat) (H ++ [.arr e z.size false 0 (.ts (List.replicate n.toNat (dV z.size zs)))])))
 | _, _, _ => False
def mi (x : AV) (i : Nat) (K : AV → Prop) : Prop :=
 match x with
 | .ao vs => aY vs[i]? K
 | _ => False
def tN (c a b : AV) (K : AV → Prop) : Prop :=
 match c with
 | .t (.bool c) =>
  match a, b with
  | .t (.bool x), .t (.bool y) => K (.t (.bool (cond c x y)))
  | _, _ => Br c (K a) (K b)
 | _ => False
def xb (tab : a9) (ty : TypeId) (x : AV) (H : AH) (K : AV → AH → Prop) : Prop :=
 match x with
 | .t .av =>
  (match tab ty with
   | some y => (match y.d with
    | .slice e => (match tab e with
     | some z => (match Nat.ble 1 z.size with | true => K (.sl H.length 0 0 0) (H ++ [.arr e z.size true 0 (.ts [])]) | false => K x H)
     | none => K x H)
    | _ => K x H)
   | none => K x H)
 | _ => K x H
def rM (H : AH) : AV → Option Nat
 | .t (.str s) => some s.length
 | .t (.vec _ l) => some l.length
 | .t (.κ _ l) => some l.length
 | .t .av => some 0
 | .sl b g _ n =>
  match H[b]? with
  | some (.arr _ _ _ gen _) => match Nat.beq g gen with | true => some n | false => none
  | _ => none
 | .dc => some 0
 | _ => none
def Du : TypeDesc → Bool
 | .string => true
 | .slice _ => true
 | _ => false
def v_ : AV → Bool
 | .t (.str _) => true
 | _ => false
def Ao : TypeDesc → Bool
 | .string => true
 | _ => false
def rc (tab : a9) (ty : TypeId) (H : AH) (x : AV) (K : AV → Prop) : Prop :=
 aY (tab ty) fun y =>
 match y.d with
 | .array n _ => K (.t (.int .i64 n))
 | _ => Ck (Du y.d && (Ao y.d == v_ x)) (aY (rM H x) fun n => K (.t (.int .i64 n)))
def appended (H : AH) (s : Nat) : AV → Option Sq
 | .t (.str l) => match Nat.beq s 1 with | true => some (.ts (l.map fun c => .int .u8 (c.toNat : Int))) | false => none
 | .t (.vec s' l) => match Nat.beq s s' with | true => some (.ts l) | false => none
 | .t (.κ s' l) => match Nat.beq s s' with | true => some (.ts l) | false => none
 | .t .av => some (.ts [])
 | .sl b g i n =>
  match H[b]? with
  | some (.arr _ s' _ gen l) => match Nat.beq g gen && Nat.beq s s' with | true => some (l.part i n) | false => none
  | _ => none
 | .dc => some (.ts [])
 | _ => none
def eK (n bytes : Nat) : Bool := decide (n ≤ 9223372036854775807) && (decide (n * bytes ≤ 140737488355328) || decide ((n + n / 4 + 192) * bytes ≤ 281474976710656))
def xc (tab : a9) (ty : TypeId) (H : AH) (a x : AV) (K : AV → AH → Prop) : Prop :=
 aY (tab ty) fun y =>
 match y.d with
 | .slice e => aY (tab e) fun z => aY z.zero fun zs => aY (appended H z.size x) fun news =>
  Ck (Nat.ble 1 z.size && Nat.beq zs.length z.size)
  (match a with
  | .t .av => Ck (eK news.length z.bytes) (K (.sl H.length 0 0 news.length) (H ++ [.arr e z.size true 0 news]))
  | .dc => Ck (eK news.length z.bytes) (K (.sl H.length 0 0 news.length) (H ++ [.arr e z.size false 0 news]))
  | .sl b g i n =>
   (match H[b]? with
    | some (.arr e' s z' gen l) =>
     Ck (Nat.beq g gen && Nat.beq i 0 && Nat.beq e e' && Nat.beq s z.size) ((n = l.length ∧ Ck (eK (n + news.length) z.bytes)
      (K (.sl b (gen + 2 - gen % 2) 0 (n + news.length)) (H.set b (.arr e' s z' (gen + 2 - gen % 2) (l.jT news))))) ∨
      Ck (Nat.ble 1 l.length && Nat.ble (n + news.length) l.length) (K (.sl b gen 0 (n + news.length)) (H.set b (.arr e' s z' gen (l.put n news)))))
    | _ => False)
  | _ => False)
 | _ => False
def uN (tab : a9) (ty : TypeId) (a x : AV) (H : AH) (K : AV → AH → Prop) : Prop :=
 aY (tab ty) fun y =>
 match y.d with
 | .slice e => aY (tab e) fun z => aY z.zero fun zs =>
  (match a, x with
  | .t .av, .t (.int k n) =>
   Ck (fL k .i64 && decide (0 < n) && eK n.toNat z.bytes && Nat.ble 1 z.size && Nat.beq zs.length z.size && zs.all T.one)
    (K (.sl H.length 0 0 n.toNat) (H ++ [.arr e z.size true 0 (.ts (List.replicate n.toNat (dV z.size zs)))]))
  | _, _ => False)
 | _ => False
def HK (tab : a9) (ty : TypeId) (H : AH) (x : AV) (K : AV → Prop) : Prop :=
 aY (tab ty) fun y =>
 match y.d, x with
 | .slice _, .t .av => K (.t (.int .i64 0))
 | .slice _, .sl b g i n =>
  (match H[b]? with
   | some (.arr _ s z gen l) => Ck (Nat.beq g gen) (Br (z && Nat.beq l.length 0) (K (.t (.int .i64 0))) (Ck (Nat.beq (gen % 2) 1 && Nat.ble 1 s) (K (.t (.int .i64 ((l.length - i : Nat) : Int))))))
   | _ => False)
 | _, _ => False
def CP (tab : a9) (ty : TypeId) (a x : AV) (H : AH) (K : AV → AH → Prop) : Prop :=
 aY (tab ty) fun y =>
 match y.d with
 | .slice e => aY (tab e) fun z =>
  (match a with
  | .t .av => Ck (!v_ x) (aY (rM H x) fun _ => K (.t (.int .i64 0)) H)
  | .sl b g i n =>
   (match H[b]? with
    | some (.arr e' s z' gen l) => aY (appended H z.size x) fun news =>
     Ck (Nat.beq g gen && Nat.beq s z.size && Nat.ble 1 z.size && Nat.ble 1 l.length) (Ck (Nat.ble news.length n) (K (.t (.int .i64 news.length)) (H.set b (.arr e' s z' gen (l.put i news)))))
    | _ => False)
  | _ => False)
 | _ => False
def Ap : TypeDesc → Bool
 | .int _ => true
 | _ => false
def kX (mx : Bool) (x y : AV) (K : AV → Prop) : Prop :=
 match x, y with
 | .t (.int k a), .t (.int k' b) => Ck (fL k k') (K (.t (.int k (match mx with | true => max a b | false => min a b))))
 | _, _ => False
abbrev jE := FuncId → List AV → AH → (AV → AH → Prop) → Prop
def vx (tab : a9) (call : jE) (c : Call) (ty : TypeId) (env : List (Nat × AV)) (H : AH) (K : AV → AH → Prop) : Prop :=
 match c.callee with
 | .builtin b =>
  (match b, c.argTypes.toList, c.args.toList with
  | .len, [t], [x] => rc tab t H (aI env x) fun v => K v H
  | .append, [t, u], [x, y] => aY (tab u) fun z => (match Ap z.d with | true => uN tab t (aI env x) (aI env y) H K | false => xc tab t H (aI env x) (aI env y) K)
  | .cap, [t], [x] => HK tab t H (aI env x) fun v => K v H
  | .copy, [t, _], [x, y] => CP tab t (aI env x) (aI env y) H K
  | .min, _, [x, y] => kX false (aI env x) (aI env y) fun v => K v H
  | .max, _, [x, y] => kX true (aI env x) (aI env y) fun v => K v H
  | _, _, _ => False)
 | .value f =>
  (match aI env f with
  | .t (.fn (.func g) first captured) => call g (first.map .t ++ (c.args.toList.map (aI env) ++ captured.map .t)) H K
  | .fn (.func g) first captured => call g (first ++ (c.args.toList.map (aI env) ++ captured)) H K
  | _ => False)
 | .invoke _ _ => False
def gE (H : AH) (x : AV) (K : AV → Prop) : Prop :=
 match x with
 | .t (.cO c) => K x
 | .ptr b g i o =>
  (match H[b]? with
   | some (.box _) => K x
   | some (.arr _ _ _ gen _) => Ck (Nat.beq g gen) (K x)
   | _ => False)
 | .t (.fn (.func f) a b) => K x
 | .fn (.func f) a b => K x
 | _ => False
def zn (tab : a9) (ty : TypeId) (x : AV) (H : AH) (K : AV → AH → Prop) : Prop :=
 aY (tab ty) fun y =>
 match y.d, x with
 | .string, .t (.str s) => K (.ptr H.length 0 0 0) (H ++ [.iter s 0])
 | _, _ => False
def CO (x : AV) (st : Bool) (H : AH) (K : AV → AH → Prop) : Prop :=
 match x with
 | .ptr b _ _ o =>
  (match H[b]? with
   | some (.iter s p) => Ck (st && Nat.beq o 0)
    (match s[p]? with
    | some c => Ck (Nat.blt c.toNat 128) (K (.ao [.t (.bool true), .t (.int .i64 p), .t (.int .i32 c.toNat)]) (H.set b (.iter s (p + 1))))
    | none => K (.ao [.t (.bool false)]) H)
   | _ => False)
 | _ => False
def pz (tab : a9) (call : jE) (o : Oper) (env : List (Nat × AV)) (H : AH) (K : AV → AH → Prop) : Prop :=
 match o.op with
 | .move x => K (aI env x) H
 | .assign x => xb tab o.type (aI env x) H K
 | .pick c a b => tN (aI env c) (aI env a) (aI env b) fun v => K v H
 | .alloc e => aY (tab e) fun y => aY y.zero fun zs => Ck (zs.all T.one && Nat.beq zs.length y.size)
  (match Nat.ble 300 y.size with | true => K (.ptr H.length 0 0 0) (H ++ [.arr e y.size false 0 (.ts [.agg zs])]) | false => K (.ptr H.length 0 0 0) (H ++ [.box (zs.map .t)]))
 | .box e x => Ck ((aI env x).cells.all AV.one) (K (.ptr H.length 0 0 0) (H ++ [.box (aI env x).cells]))
 | .build t parts => qx tab t (parts.toList.map fun p => (p.1, aI env p.2)) fun v => K v H
 | .buildSlice t n parts => mP tab t n (parts.toList.map fun p => (p.1, aI env p.2)) H K
 | .load t a => mO tab t H (aI env a) fun v => K v H
 | .store t a x => zm tab t H (aI env a) (aI env x) fun H' => K (.ao []) H'
 | .nilCheck x => gE H (aI env x) fun v => K v H
 | .binOp op t x y _ => rf tab op t H (aI env x) (aI env y) (isConst y) fun v => K (.t v) H
 | .unOp op _ x => BV tab.stop op (aI env x) fun v => K (.t v) H
 | .convert s d x => iN tab s d (aI env x) H fun v => K v H
 | .makeInterface t x => aY (tab t) fun y => Ck (match y.d with | .interface _ => false | _ => true)
  (match aI env x with | .t v => K (.t (.bY t v)) H | v => K (.bY t v) H)
 | .makeFunc f first captured => K (.fn f (first.toList.map (aI env)) (captured.toList.map (aI env))) H
 | .makeSlice t l c => ol tab t (aI env l) (aI env c) H K
 | .slice t x lo hi mx => lm tab t H (aI env x) (lo.map (aI env)) (hi.map (aI env)) (mx.map (aI env)) fun v => K v H
 | .fieldAddr t x k => fZ tab t H (aI env x) k fun v => K v H
 | .field t x k => qw tab t (aI env x) k fun v => K v H
 | .indexAddr t x i => fY tab t H (aI env x) (aI env i) fun v => K v H
 | .index t x i => qv tab t (aI env x) (aI env i) fun v => K v H
 | .extract x i => mi (aI env x) i fun v => K v H
 | .call c => vx tab call c o.type env H K
 | .range t x => zn tab t (aI env x) H K
 | .next x st => CO (aI env x) st H K
 | _ => False
def cL (ops : Array Oper) (j : Nat) : Option Nat := (ops[j]?).bind (·.dst)
def kl (tab : a9) (call : jE) (ops : Array Oper) (o : Oper) (s : St) (K : St → Prop) : Prop :=
 match s with
 | ⟨env, H⟩ =>
 match o.guard with
 | none => pz tab call o env H fun v H => zG o.op ⟨env, H⟩ o.dst v H K
 | some (j, want) =>
  aY (cL ops j) fun d =>
  match lk env d with
  | .t (.bool c) =>
   (match want with
   | true => Br c (pz tab call o ((d, .t (.bool true)) :: env) H fun v H' => zG o.op ⟨(d, .t (.bool true)) :: env, H⟩ o.dst v H' K) (ma ⟨(d, .t (.bool false)) :: env, H⟩ o.dst (.ao []) H K)
   | false => Br c (ma ⟨(d, .t (.bool true)) :: env, H⟩ o.dst (.ao []) H K) (pz tab call o ((d, .t (.bool false)) :: env) H fun v H' => zG o.op ⟨(d, .t (.bool false)) :: env, H⟩ o.dst v H' K))
  | .ao [] => ma ⟨env, H⟩ o.dst (.ao []) H K
  | _ => False
noncomputable def L2 (tab : a9) (call : jE) (ops : Array Oper) (l : List Oper) : St → (St → Prop) → Prop :=
 @List.rec Oper (fun _ => St → (St → Prop) → Prop) (fun s K => K s) (fun o _ ih s K => kl tab call ops o s fun s' => ih s' K) l
inductive Ex where
 | normal | exit (id : Nat) | ret
end Go.Proofs.YtcogcbplmkcojaaGreatDoor
namespace Go.Proofs.YtcogcbplmkcojaaGreatDoor
open Go.RowKit
set_option linter.unusedVariables false
def Cx.new (c : Cx) (n cb : Nat) : Cx := ⟨c.F, fun b => if b = n then some cb else c.G b⟩
theorem bh {α : Type} {l : List α} {x : α} {i : Nat} (h : i < l.length) : (l ++ [x])[i]? = l[i]? := by
 rw [List.getElem?_append_left h]
theorem gp {α : Type} {l : List α} {x : α} : (l ++ [x])[l.length]? = some x := by simp
theorem HS.N1 {w c H B} (h : HS w c H B) : c.G H.length = none := by
 cases hg : c.G H.length with
 | none => rfl
 | some cb => have := h.jB _ _ hg; omega
theorem ι {α : Type} {l : List α} {i : Nat} {x : α} (h : l[i]? = some x) : i < l.length := by
 rcases Nat.lt_or_ge i l.length with h1 | h1
 ·exact h1
 ·simp [List.getElem?_eq_none h1] at h
theorem dl (w : World) (o : Obj) (i : Nat) (h : i < w.heap.size) : (w.alloc o).heap[i]? = w.heap[i]? := Below.heap_alloc w o i h
theorem lR {w : World} {c : Cx} {H : AH} {B : Nat} (hs : HS w c H B) (o : Obj) (ν : Ψ) : Ev w c H (w.alloc o) (c.new H.length w.heap.size) (H ++ [ν]) := by
 refine ⟨rfl, by simp, fun b bk hb => ⟨bk, by rw [bh (ι hb)]; exact hb, ?_⟩, fun cb hm => ?_, fun cb χ _ => dl w _ cb χ,
  fun b bk hb _ hg => by have := ι hb; simp only [Cx.new, if_neg (show b ≠ H.length by omega)]; exact hg⟩
 ·have aw : b ≠ H.length := by have := ι hb; omega
  cases bk with
  | dead => trivial
  | box cs => exact ⟨rfl, fun cb hc => by simp only [Cx.new, if_neg aw]; exact hc⟩
  | iter s p => exact ⟨rfl, fun cb hc => by simp only [Cx.new, if_neg aw]; exact hc⟩
  | arr e s z g l =>
   refine ⟨rfl, rfl, rfl, Nat.le_refl _, Nat.le_refl _, fun _ => ⟨rfl, fun cb hc => ⟨by simp only [Cx.new, if_neg aw]; exact hc, ?_⟩⟩⟩
   unfold dI
   rw [dl w _ cb (hs.base b cb hc).2]
 ·rcases hm with ⟨b, bk, hb, hl, hg⟩
  ·simp only [Cx.new] at hg
   split at hg
   ·exact .inr (by simp at hg; omega)
   ·rename_i aw
    refine .inl ⟨b, bk, ?_, hl, hg⟩
    have := ι hb
    simp at this
    rwa [bh (by omega)] at hb
theorem iM {w : World} {B : Nat} (hB : B ≤ w.heap.size) (o : Obj) : Below B w (w.alloc o) := (Below.refl B w).alloc hB o
theorem dh.ew {w c H w' c' H' s} {l : Sq} {arr : Array Value} (h : dh w c H s l arr) (ev : Ew w c H w' c' H') : dh w' c' H' s l arr := fun i x hi => ⟨(h i x hi).1, fun j y hj => by
 obtain ⟨v, b1, b2, b3, b4⟩ := (h i x hi).2 j y hj
 exact ⟨v, b1, b2, b3.ew ev, b4⟩⟩
theorem dh.ev {w c H w' c' H' s} {l : Sq} {arr : Array Value} (h : dh w c H s l arr) (ev : Ev w c H w' c' H') : dh w' c' H' s l arr := h.ew ev.w
theorem HS.v7 {w c H B w' c' H'} (h : HS w c H B) (ev : Ew w c H w' c' H') (vj : ∀ b b' cb, c'.G b = some cb → c'.G b' = some cb → b = b')
 (m_ : ∀ b cb, c'.G b = some cb → B ≤ cb ∧ cb < w'.heap.size) (tm : ∀ b cb, c'.G b = some cb → b < H'.length)
 (Ji : ∀ b cb cells, H'[b]? = some (.box cells) → c'.G b = some cb → (H[b]? = some (.box cells) ∧ c.G b = some cb ∧ w'.heap[cb]? = w.heap[cb]?) ∨
  ∃ arr e, w'.heap[cb]? = some (.cells arr e (0, 0)) ∧ arr.size = cells.length ∧ ∀ (j : Nat) x v, cells[j]? = some x → arr[j]? = some v → x.one = true ∧ RA w' c' H' x v ∧ v.oneCell' = true)
 (fe : ∀ b cb e s z g l, H'[b]? = some (.arr e s z g l) → c'.G b = some cb → (H[b]? = some (.arr e s z g l) ∧ c.G b = some cb ∧ w'.heap[cb]? = w.heap[cb]?) ∨
  ∃ arr cap, w'.heap[cb]? = some (.cells arr e (0, 0)) ∧ arr.size = cap * s ∧ (l.length ≤ cap ∧ (g % 2 = 1 → l.length = cap)) ∧ cap ≤ maxLen ∧ dh w' c' H' s l arr)
 (DJ : ∀ b cb s p, H'[b]? = some (.iter s p) → c'.G b = some cb → (H[b]? = some (.iter s p) ∧ c.G b = some cb ∧ w'.heap[cb]? = w.heap[cb]?) ∨ ∃ bs : ByteArray, w'.heap[cb]? = some (.stringIter bs p) ∧ bs.data.toList = s)
 (nS : ∀ b cb, c'.G b = some cb → (∃ b', c.G b' = some cb) ∨ w.heap.size ≤ cb := by
  first
   | exact fun b cb h => .inl ⟨b, h⟩
   | (intro b cb h; simp only [Cx.new] at h; split at h <;> first | exact .inl ⟨_, h⟩ | exact .inr (by simp at h; omega))) :
 HS w' c' H' B := by
 refine ⟨vj, m_, fun cb hf => by
  rw [ev.F] at hf
  have h1 := h.fb cb hf
  exact ⟨Nat.lt_of_lt_of_le h1.1 ev.size, fun b hb => (nS b cb hb).elim (fun ⟨b', h2⟩ => h1.2 b' h2) fun h2 => by omega⟩, Nat.le_trans h.hB ev.size, tm, fun b cb cells hb hg => ?_, fun b cb e s z g l hb hg => ?_, fun b cb s p hb hg => ?_⟩
 ·rcases Ji b cb cells hb hg with ⟨h1, h2, h3⟩ | h1
  ·obtain ⟨arr, e, a1, a2, a3⟩ := h.box b cb cells h1 h2
   exact ⟨arr, e, h3.trans a1, a2, fun j x v hj hv => ⟨(a3 j x v hj hv).1, (a3 j x v hj hv).2.1.ew ev, (a3 j x v hj hv).2.2⟩⟩
  ·exact h1
 ·rcases fe b cb e s z g l hb hg with ⟨h1, h2, h3⟩ | h1
  ·obtain ⟨arr, cap, a1, a2, a3, a4, a5⟩ := h.arr b cb e s z g l h1 h2
   exact ⟨arr, cap, h3.trans a1, a2, a3, a4, a5.ew ev⟩
  ·exact h1
 ·rcases DJ b cb s p hb hg with ⟨h1, h2, h3⟩ | h1
  ·obtain ⟨bs, a1, a2⟩ := h.iter b cb s p h1 h2
   exact ⟨bs, h3.trans a1, a2⟩
  ·exact h1
theorem HS.aM {w c H B w' c' H'} (h : HS w c H B) (ev : Ev w c H w' c' H') (vj : ∀ b b' cb, c'.G b = some cb → c'.G b' = some cb → b = b')
 (m_ : ∀ b cb, c'.G b = some cb → B ≤ cb ∧ cb < w'.heap.size) (tm : ∀ b cb, c'.G b = some cb → b < H'.length)
 (Ji : ∀ b cb cells, H'[b]? = some (.box cells) → c'.G b = some cb → (H[b]? = some (.box cells) ∧ c.G b = some cb ∧ w'.heap[cb]? = w.heap[cb]?) ∨
  ∃ arr e, w'.heap[cb]? = some (.cells arr e (0, 0)) ∧ arr.size = cells.length ∧ ∀ (j : Nat) x v, cells[j]? = some x → arr[j]? = some v → x.one = true ∧ RA w' c' H' x v ∧ v.oneCell' = true)
 (fe : ∀ b cb e s z g l, H'[b]? = some (.arr e s z g l) → c'.G b = some cb → (H[b]? = some (.arr e s z g l) ∧ c.G b = some cb ∧ w'.heap[cb]? = w.heap[cb]?) ∨
  ∃ arr cap, w'.heap[cb]? = some (.cells arr e (0, 0)) ∧ arr.size = cap * s ∧ (l.length ≤ cap ∧ (g % 2 = 1 → l.length = cap)) ∧ cap ≤ maxLen ∧ dh w' c' H' s l arr)
 (DJ : ∀ b cb s p, H'[b]? = some (.iter s p) → c'.G b = some cb → (H[b]? = some (.iter s p) ∧ c.G b = some cb ∧ w'.heap[cb]? = w.heap[cb]?) ∨ ∃ bs : ByteArray, w'.heap[cb]? = some (.stringIter bs p) ∧ bs.data.toList = s)
 (nS : ∀ b cb, c'.G b = some cb → (∃ b', c.G b' = some cb) ∨ w.heap.size ≤ cb := by
  first
   | exact fun b cb h => .inl ⟨b, h⟩
   | (intro b cb h; simp only [Cx.new] at h; split at h <;> first | exact .inl ⟨_, h⟩ | exact .inr (by simp at h; omega))) :
 HS w' c' H' B := h.v7 ev.w vj m_ tm Ji fe DJ nS
theorem xx {w c H B} (hs : HS w c H B) (o : Obj) : ∀ b b' cb, (c.new H.length w.heap.size).G b = some cb → (c.new H.length w.heap.size).G b' = some cb → b = b' := by
 intro b b' cb h h'
 simp only [Cx.new] at h h'
 split at h <;> split at h'
 ·omega
 ·have := (hs.base b' cb h').2; simp at h; omega
 ·have := (hs.base b cb h).2; simp at h'; omega
 ·exact hs.inj b b' cb h h'
theorem va {w c H B} (hs : HS w c H B) (o : Obj) : ∀ b cb, (c.new H.length w.heap.size).G b = some cb → B ≤ cb ∧ cb < (w.alloc o).heap.size := by
 intro b cb h
 simp only [Cx.new] at h ⊢
 split at h
 ·simp at h; subst h; exact ⟨hs.hB, by simp⟩
 ·have := hs.base b cb h; exact ⟨this.1, by simp; omega⟩
theorem xy {w c H B} (hs : HS w c H B) (ν : Ψ) : ∀ b cb, (c.new H.length w.heap.size).G b = some cb → b < (H ++ [ν]).length := by
 intro b cb h
 simp only [Cx.new] at h
 split at h
 ·simp; omega
 ·have := hs.jB b cb h; simp; omega
theorem Lg {w : World} {c : Cx} {H : AH} {B : Nat} (hs : HS w c H B) (e : TypeId) (cells : List AV) (arr : Array Value) (hl : arr.size = cells.length)
 (hc : ∀ (j : Nat) x v, cells[j]? = some x → arr[j]? = some v → x.one = true ∧ RA w c H x v ∧ v.oneCell' = true) :
 HS (w.alloc (.cells arr e)) (c.new H.length w.heap.size) (H ++ [.box cells]) B := by
 have ev := lR hs (.cells arr e) (.box cells)
 refine hs.aM ev (xx hs (.cells arr e)) (va hs (.cells arr e)) (xy hs (.box cells)) (fun b cb cs hb hg => ?_) (fun b cb e s z g l hb hg => ?_) (fun b cb s p hb hg => ?_)
 ·by_cases aC : b = H.length
  ·subst aC
   simp only [Cx.new, if_true] at hg
   simp at hb hg
   subst hb hg
   exact .inr ⟨arr, e, heap_alloc_new w _, hl, fun j x v hj hv => ⟨(hc j x v hj hv).1, (hc j x v hj hv).2.1.ev ev, (hc j x v hj hv).2.2⟩⟩
  ·simp only [Cx.new, if_neg aC] at hg
   have h1 := ι hb
   simp at h1
   rw [bh (by omega)] at hb
   exact .inl ⟨hb, hg, dl w _ cb (hs.base b cb hg).2⟩
 ·by_cases aC : b = H.length
  ·subst aC; simp at hb
  ·simp only [Cx.new, if_neg aC] at hg
   have h1 := ι hb
   simp at h1
   rw [bh (by omega)] at hb
   exact .inl ⟨hb, hg, dl w _ cb (hs.base b cb hg).2⟩
 ·by_cases aC : b = H.length
  ·subst aC; simp at hb
  ·simp only [Cx.new, if_neg aC] at hg
   have h1 := ι hb
   simp at h1
   rw [bh (by omega)] at hb
   exact .inl ⟨hb, hg, dl w _ cb (hs.base b cb hg).2⟩
theorem tV {w : World} {c : Cx} {H : AH} {B : Nat} (hs : HS w c H B) (e s : Nat) (z : Bool) (g : Nat) (l : Sq) (arr : Array Value) (cap : Nat)
 (bH : arr.size = cap * s) (hl : l.length ≤ cap ∧ (g % 2 = 1 → l.length = cap)) (hm : cap ≤ maxLen)
 (hc : dh w c H s l arr) :
 HS (w.alloc (.cells arr e)) (c.new H.length w.heap.size) (H ++ [.arr e s z g l]) B := by
 have ev := lR hs (.cells arr e) (.arr e s z g l)
 refine hs.aM ev (xx hs (.cells arr e)) (va hs (.cells arr e)) (xy hs (.arr e s z g l)) (fun b cb cs hb hg => ?_) (fun b cb e s z g l hb hg => ?_) (fun b cb s p hb hg => ?_)
 ·by_cases aC : b = H.length
  ·subst aC; simp at hb
  ·simp only [Cx.new, if_neg aC] at hg
   have h1 := ι hb
   simp at h1
   rw [bh (by omega)] at hb
   exact .inl ⟨hb, hg, dl w _ cb (hs.base b cb hg).2⟩
 ·by_cases aC : b = H.length
  ·subst aC
   simp only [Cx.new, if_true] at hg
   simp at hb hg
   obtain ⟨rfl, rfl, rfl, rfl, rfl⟩ := hb
   subst hg
   exact .inr ⟨arr, cap, heap_alloc_new w _, bH, hl, hm, hc.ev ev⟩
  ·simp only [Cx.new, if_neg aC] at hg
   have h1 := ι hb
   simp at h1
   rw [bh (by omega)] at hb
   exact .inl ⟨hb, hg, dl w _ cb (hs.base b cb hg).2⟩
 ·by_cases aC : b = H.length
  ·subst aC; simp at hb
  ·simp only [Cx.new, if_neg aC] at hg
   have h1 := ι hb
   simp at h1
   rw [bh (by omega)] at hb
   exact .inl ⟨hb, hg, dl w _ cb (hs.base b cb hg).2⟩
theorem IN {w : World} {c : Cx} {H : AH} {B : Nat} (hs : HS w c H B) (bs : ByteArray) (pos : Nat) :
 HS (w.alloc (.stringIter bs pos)) (c.new H.length w.heap.size) (H ++ [.iter bs.data.toList pos]) B := by
 have ev := lR hs (.stringIter bs pos) (.iter bs.data.toList pos)
 refine hs.aM ev (xx hs (.stringIter bs pos)) (va hs (.stringIter bs pos)) (xy hs (.iter bs.data.toList pos)) (fun b cb cs hb hg => ?_) (fun b cb e s z g l hb hg => ?_) (fun b cb s p hb hg => ?_)
 ·by_cases aC : b = H.length
  ·subst aC; simp at hb
  ·simp only [Cx.new, if_neg aC] at hg
   have h1 := ι hb
   simp at h1
   rw [bh (by omega)] at hb
   exact .inl ⟨hb, hg, dl w _ cb (hs.base b cb hg).2⟩
 ·by_cases aC : b = H.length
  ·subst aC; simp at hb
  ·simp only [Cx.new, if_neg aC] at hg
   have h1 := ι hb
   simp at h1
   rw [bh (by omega)] at hb
   exact .inl ⟨hb, hg, dl w _ cb (hs.base b cb hg).2⟩
 ·by_cases aC : b = H.length
  ·subst aC
   simp only [Cx.new, if_true] at hg
   simp at hb hg
   obtain ⟨rfl, rfl⟩ := hb
   subst hg
   exact .inr ⟨bs, heap_alloc_new w _, rfl⟩
  ·simp only [Cx.new, if_neg aC] at hg
   have h1 := ι hb
   simp at h1
   rw [bh (by omega)] at hb
   exact .inl ⟨hb, hg, dl w _ cb (hs.base b cb hg).2⟩
theorem oU {w : World} {c : Cx} {H : AH} {B : Nat} (hs : HS w c H B) (ν : Ψ) : Ev w c H w c (H ++ [ν]) ∧ HS w c (H ++ [ν]) B := by
 have tm := hs.N1
 have ev : Ev w c H w c (H ++ [ν]) := by
  refine ⟨rfl, Nat.le_refl _, fun b bk hb => ⟨bk, by rw [bh (ι hb)]; exact hb, ?_⟩, fun cb hm => ?_, fun _ _ _ => rfl, fun _ _ _ _ h => h⟩
  ·cases bk with
   | dead => trivial
   | box cs => exact ⟨rfl, fun _ h => h⟩
   | iter s p => exact ⟨rfl, fun _ h => h⟩
   | arr => exact ⟨rfl, rfl, rfl, Nat.le_refl _, Nat.le_refl _, fun _ => ⟨rfl, fun _ h => ⟨h, rfl⟩⟩⟩
  ·rcases hm with ⟨b, bk, hb, hl, hg⟩
   ·refine .inl ⟨b, bk, ?_, hl, hg⟩
    rwa [bh (hs.jB b cb hg)] at hb
 refine ⟨ev, hs.aM ev hs.inj hs.base (fun b cb h => by have := hs.jB b cb h; simp; omega) (fun b cb cs hb hg => ?_) (fun b cb e s z g l hb hg => ?_) (fun b cb s p hb hg => ?_)⟩
 ·rw [bh (hs.jB b cb hg)] at hb; exact .inl ⟨hb, hg, rfl⟩
 ·rw [bh (hs.jB b cb hg)] at hb; exact .inl ⟨hb, hg, rfl⟩
 ·rw [bh (hs.jB b cb hg)] at hb; exact .inl ⟨hb, hg, rfl⟩
theorem kp {w : World} {c : Cx} {H : AH} (ν : Ψ) : (H ++ [ν])[H.length]? = some ν ∧ (c.new H.length w.heap.size).G H.length = some w.heap.size := by
 simp [Cx.new]
theorem jf (w : World) (arr : Array Value) (e : TypeId) : dI (w.alloc (.cells arr e)) w.heap.size = arr.size := by
 unfold dI; rw [heap_alloc_new]
theorem kill {w : World} {c : Cx} {H : AH} {B : Nat} (hs : HS w c H B) (b : Nat) : Ev w c H w c (H.set b .dead) ∧ HS w c (H.set b .dead) B := by
 have get : ∀ (i : Nat) bk, H[i]? = some bk → (H.set b .dead)[i]? = some (if i = b then .dead else bk) := by
  intro i bk hi
  have := ι hi
  by_cases h : b = i
  ·subst h; simp [this]
  ·rw [List.getElem?_set_ne h, hi, if_neg (fun e => h e.symm)]
 have back : ∀ (i : Nat) bk, (H.set b .dead)[i]? = some bk → bk ≠ .dead → H[i]? = some bk := by
  intro i bk hi aw
  by_cases h : b = i
  ·subst h
   have := ι hi
   simp at this
   simp [this] at hi
   exact (aw hi.symm).elim
  ·rwa [List.getElem?_set_ne h] at hi
 have ev : Ev w c H w c (H.set b .dead) := by
  refine ⟨rfl, Nat.le_refl _, fun i bk hi => ⟨_, get i bk hi, ?_⟩, fun cb hm => ?_, fun _ _ _ => rfl, fun _ _ _ _ h => h⟩
  ·split
   ·cases bk <;> trivial
   ·cases bk with
    | dead => trivial
    | box cs => exact ⟨rfl, fun _ h => h⟩
    | iter s p => exact ⟨rfl, fun _ h => h⟩
    | arr => exact ⟨rfl, rfl, rfl, Nat.le_refl _, Nat.le_refl _, fun _ => ⟨rfl, fun _ h => ⟨h, rfl⟩⟩⟩
  ·rcases hm with ⟨i, bk, hi, hl, hg⟩
   ·exact .inl ⟨i, bk, back i bk hi (by rintro rfl; simp [Ψ.live] at hl), hl, hg⟩
 refine ⟨ev, hs.aM ev hs.inj hs.base (fun b cb h => by have := hs.jB b cb h; simp; omega) (fun i cb cs hi hg => ?_) (fun i cb e s z g l hi hg => ?_) (fun i cb s p hi hg => ?_)⟩
 ·exact .inl ⟨back i _ hi (by simp), hg, rfl⟩
 ·exact .inl ⟨back i _ hi (by simp), hg, rfl⟩
 ·exact .inl ⟨back i _ hi (by simp), hg, rfl⟩
end Go.Proofs.YtcogcbplmkcojaaGreatDoor
namespace Go.Proofs.YtcogcbplmkcojaaGreatDoor
open Go.RowKit
set_option linter.unusedVariables false
set_option linter.unusedSimpArgs false
theorem xD {w w' : World} (h : w'.heap = w.heap) (c : Cx) (H : AH) : Ev w c H w' c H := by
 refine ⟨rfl, by rw [h]; exact Nat.le_refl _, fun b ν hb => ⟨ν, hb, ?_⟩, fun _ h => .inl h, fun _ _ _ => by rw [h], fun _ _ _ _ h => h⟩
 cases ν with
 | dead => trivial
 | box cs => exact ⟨rfl, fun _ h => h⟩
 | iter s p => exact ⟨rfl, fun _ h => h⟩
 | arr => exact ⟨rfl, rfl, rfl, Nat.le_refl _, Nat.le_refl _, fun _ => ⟨rfl, fun cb hc => ⟨hc, by simp only [dI, h]⟩⟩⟩
theorem HS.same {w w' : World} {c H B} (hs : HS w c H B) (h : w'.heap = w.heap) : HS w' c H B := by
 refine hs.aM (xD h c H) hs.inj (fun b cb hg => by rw [h]; exact hs.base b cb hg) hs.jB (fun b cb cells hb hg => .inl ⟨hb, hg, by rw [h]⟩) (fun b cb e s z g l hb hg => .inl ⟨hb, hg, by rw [h]⟩) (fun b cb s p hb hg => .inl ⟨hb, hg, by rw [h]⟩)
theorem wN {w : World} {B : Nat} : Below B w w.drew := (Below.refl B w).drew
theorem OX {w : World} {c : Cx} {H : AH} {B : Nat} (hs : HS w c H B) {b cb : Nat} {ν az : Ψ} (hb : H[b]? = some ν) (hl : ν.live = true) (hg : c.G b = some cb)
 {arr dF : Array Value} {e : TypeId} (hc : w.heap[cb]? = some (.cells arr e (0, 0))) (bH : dF.size = arr.size)
 (goes : Ψ.goes w c (w.setRow cb dF) c b ν az) : Ev w c H (w.setRow cb dF) c (H.set b az) := by
 have χ := ι hb
 refine ⟨rfl, by simp, fun i bk hi => ?_, fun k hm => ?_, fun k _ hm => setRow_other w cb k dF (fun e => hm (⟨b, ν, hb, hl, by rw [e]; exact hg⟩)), fun _ _ _ _ h => h⟩
 ·by_cases h : b = i
  ·subst h
   rw [hb] at hi
   cases hi
   exact ⟨az, by simp [χ], goes⟩
  ·refine ⟨bk, by rw [List.getElem?_set_ne h]; exact hi, ?_⟩
   cases bk with
   | dead => trivial
   | box cs => exact ⟨rfl, fun _ h => h⟩
   | iter s p => exact ⟨rfl, fun _ h => h⟩
   | arr =>
    refine ⟨rfl, rfl, rfl, Nat.le_refl _, Nat.le_refl _, fun _ => ⟨rfl, fun G1 Gu => ⟨Gu, ?_⟩⟩⟩
    have aw : G1 ≠ cb := fun e => h (hs.inj b i cb hg (by rw [← e]; exact Gu))
    simp only [dI, setRow_other w cb G1 dF aw]
 ·rcases hm with ⟨i, bk, hi, gZ, cw⟩
  ·by_cases h : b = i
   ·subst h
    rw [cw] at hg; cases hg
    exact .inl ⟨b, ν, hb, hl, cw⟩
   ·rw [List.getElem?_set_ne h] at hi
    exact .inl ⟨i, bk, hi, gZ, cw⟩
theorem K3 {w : World} {c : Cx} {H : AH} {B : Nat} (hs : HS w c H B) {b cb : Nat} {cells tG : List AV} (hb : H[b]? = some (.box cells)) (hg : c.G b = some cb)
 {arr dF : Array Value} {e : TypeId} (hc : w.heap[cb]? = some (.cells arr e (0, 0))) (bH : dF.size = arr.size) (ML : arr.size = cells.length) (cm : tG.length = cells.length)
 (hn : ∀ (j : Nat) x v, tG[j]? = some x → dF[j]? = some v → x.one = true ∧ RA w c H x v ∧ v.oneCell' = true) :
 Ev w c H (w.setRow cb dF) c (H.set b (.box tG)) ∧ HS (w.setRow cb dF) c (H.set b (.box tG)) B := by
 have ev : Ev w c H (w.setRow cb dF) c (H.set b (.box tG)) := OX hs hb rfl hg hc bH ⟨cm.symm, fun _ h => h⟩
 have χ := ι hb
 refine ⟨ev, hs.aM ev hs.inj (fun b cb h => by simp; exact hs.base b cb h) (fun b cb h => by simp; exact hs.jB b cb h) (fun i k cs hi cw => ?_) (fun i k e s z g l hi cw => ?_) (fun i k s p hi cw => ?_)⟩
 ·by_cases h : b = i
  ·subst h
   rw [cw] at hg; cases hg
   simp [χ] at hi
   subst hi
   exact .inr ⟨dF, e, setRow_heap w _ arr dF e _ hc, by omega, fun j x v hj hv => ⟨(hn j x v hj hv).1, (hn j x v hj hv).2.1.ev ev, (hn j x v hj hv).2.2⟩⟩
  ·rw [List.getElem?_set_ne h] at hi
   exact .inl ⟨hi, cw, setRow_other w cb k dF (fun e => h (hs.inj b i cb hg (by rw [← e]; exact cw)))⟩
 ·by_cases h : b = i
  ·subst h; simp [χ] at hi
  ·rw [List.getElem?_set_ne h] at hi
   exact .inl ⟨hi, cw, setRow_other w cb k dF (fun e => h (hs.inj b i cb hg (by rw [← e]; exact cw)))⟩
 ·by_cases h : b = i
  ·subst h; simp [χ] at hi
  ·rw [List.getElem?_set_ne h] at hi
   exact .inl ⟨hi, cw, setRow_other w cb k dF (fun e => h (hs.inj b i cb hg (by rw [← e]; exact cw)))⟩
theorem qz {w : World} {c : Cx} {H : AH} {B : Nat} (hs : HS w c H B) {b cb e s g g' cap : Nat} {z : Bool} {l l' : Sq} (hb : H[b]? = some (.arr e s z g l)) (hg : c.G b = some cb)
 {arr dF : Array Value} (hc : w.heap[cb]? = some (.cells arr e (0, 0))) (bH : dF.size = arr.size) (ML : arr.size = cap * s) (ej : l'.length ≤ cap ∧ (g' % 2 = 1 → l'.length = cap)) (hm : cap ≤ maxLen)
 (fq : g ≤ g') (gz : l.length ≤ l'.length) (Nc : g = g' → l'.length = l.length)
 (hn : dh w c H s l' dF) :
 Ev w c H (w.setRow cb dF) c (H.set b (.arr e s z g' l')) ∧ HS (w.setRow cb dF) c (H.set b (.arr e s z g' l')) B := by
 have ev : Ev w c H (w.setRow cb dF) c (H.set b (.arr e s z g' l')) := OX hs hb rfl hg hc bH
  ⟨rfl, rfl, rfl, gz, fq, fun h => ⟨Nc h, fun k hk => ⟨hk, by rw [hk] at hg; cases hg; simp only [dI, setRow_heap w cb arr dF e _ hc, hc, bH]⟩⟩⟩
 have χ := ι hb
 refine ⟨ev, hs.aM ev hs.inj (fun b cb h => by simp; exact hs.base b cb h) (fun b cb h => by simp; exact hs.jB b cb h) (fun i k cs hi cw => ?_) (fun i k e s z g l hi cw => ?_) (fun i k s p hi cw => ?_)⟩
 ·by_cases h : b = i
  ·subst h; simp [χ] at hi
  ·rw [List.getElem?_set_ne h] at hi
   exact .inl ⟨hi, cw, setRow_other w cb k dF (fun e => h (hs.inj b i cb hg (by rw [← e]; exact cw)))⟩
 ·by_cases h : b = i
  ·subst h
   rw [cw] at hg; cases hg
   simp [χ] at hi
   obtain ⟨rfl, rfl, rfl, rfl, rfl⟩ := hi
   refine .inr ⟨dF, cap, setRow_heap w _ arr dF _ _ hc, by omega, ej, hm, fun i x hi => ⟨(hn i x hi).1, fun j y hj => ?_⟩⟩
   obtain ⟨v, b1, b2, b3, b4⟩ := (hn i x hi).2 j y hj
   exact ⟨v, b1, b2, b3.ev ev, b4⟩
  ·rw [List.getElem?_set_ne h] at hi
   exact .inl ⟨hi, cw, setRow_other w cb k dF (fun e => h (hs.inj b i cb hg (by rw [← e]; exact cw)))⟩
 ·by_cases h : b = i
  ·subst h; simp [χ] at hi
  ·rw [List.getElem?_set_ne h] at hi
   exact .inl ⟨hi, cw, setRow_other w cb k dF (fun e => h (hs.inj b i cb hg (by rw [← e]; exact cw)))⟩
theorem IQ {w : World} {c : Cx} {H : AH} {B : Nat} (hs : HS w c H B) {b e s g g' cap : Nat} {z : Bool} {l l' : Sq} (hb : H[b]? = some (.arr e s z g l))
 (dF : Array Value) (ML : dF.size = cap * s) (ej : l'.length ≤ cap ∧ (g' % 2 = 1 → l'.length = cap)) (hm : cap ≤ maxLen) (gz : l.length ≤ l'.length) (Nf : Ψ.fix (.arr e s z g l) = true → c.G b ≠ none) (fq : g < g')
 (hn : dh w c H s l' dF) :
 Ev w c H (w.drew.alloc (.cells dF e)) (c.new b w.heap.size) (H.set b (.arr e s z g' l')) ∧
 HS (w.drew.alloc (.cells dF e)) (c.new b w.heap.size) (H.set b (.arr e s z g' l')) B := by
 have χ := ι hb
 have hold : ∀ k, k < w.heap.size → (w.drew.alloc (.cells dF e)).heap[k]? = w.heap[k]? := fun k hk => dl w.drew _ k hk
 have nS : (w.drew.alloc (.cells dF e)).heap[w.heap.size]? = some (.cells dF e) := heap_alloc_new w.drew _
 have ev : Ev w c H (w.drew.alloc (.cells dF e)) (c.new b w.heap.size) (H.set b (.arr e s z g' l')) := by
  refine ⟨rfl, by simp, fun i bk hi => ?_, fun k hm => ?_, fun k hk _ => hold k hk, fun i bk hi RD hg => ?_⟩
  ·by_cases h : b = i
   ·subst h
    rw [hb] at hi; cases hi
    exact ⟨.arr e s z g' l', by simp [χ], rfl, rfl, rfl, gz, by omega, fun he => by omega⟩
   ·refine ⟨bk, by rw [List.getElem?_set_ne h]; exact hi, ?_⟩
    cases bk with
    | dead => trivial
    | box cs => exact ⟨rfl, fun cb hc => by simp only [Cx.new, if_neg (Ne.symm h)]; exact hc⟩
    | iter s p => exact ⟨rfl, fun cb hc => by simp only [Cx.new, if_neg (Ne.symm h)]; exact hc⟩
    | arr =>
     refine ⟨rfl, rfl, rfl, Nat.le_refl _, Nat.le_refl _, fun _ => ⟨rfl, fun cb hc => ⟨by simp only [Cx.new, if_neg (Ne.symm h)]; exact hc, ?_⟩⟩⟩
     simp only [dI, hold cb (hs.base _ _ hc).2]
  ·rcases hm with ⟨i, bk, hi, hl, cw⟩
   ·simp only [Cx.new] at cw
    split at cw
    ·exact .inr (by simp at cw; omega)
    ·rename_i h
     rw [List.getElem?_set_ne (Ne.symm h)] at hi
     exact .inl ⟨i, bk, hi, hl, cw⟩
  ·have aw : i ≠ b := fun e => by subst e; rw [hb] at hi; cases hi; exact Nf RD hg
   simp only [Cx.new, if_neg aw]; exact hg
 refine ⟨ev, hs.aM ev (fun i i' cb h h' => ?_) (fun i cb h => ?_) (fun i cb h => ?_) (fun i k cs hi cw => ?_) (fun i k e1 s1 z1 g1 l1 hi cw => ?_) (fun i k s1 p1 hi cw => ?_)⟩
 ·simp only [Cx.new] at h h'
  split at h <;> split at h'
  ·omega
  ·have := (hs.base i' cb h').2; simp at h; omega
  ·have := (hs.base i cb h).2; simp at h'; omega
  ·exact hs.inj i i' cb h h'
 ·simp only [Cx.new] at h
  split at h
  ·simp at h; subst h; exact ⟨hs.hB, by simp⟩
  ·have := hs.base i cb h; exact ⟨this.1, by simp; omega⟩
 ·simp only [Cx.new] at h
  split at h
  ·simp; omega
  ·have := hs.jB i cb h; simp; omega
 ·by_cases h : b = i
  ·subst h; simp [χ] at hi
  ·rw [List.getElem?_set_ne h] at hi
   simp only [Cx.new, if_neg (Ne.symm h)] at cw
   exact .inl ⟨hi, cw, hold k (hs.base _ _ cw).2⟩
 ·by_cases h : b = i
  ·subst h
   simp only [Cx.new, if_true] at cw
   simp at cw
   subst cw
   simp [χ] at hi
   obtain ⟨rfl, rfl, rfl, rfl, rfl⟩ := hi
   refine .inr ⟨dF, cap, nS, ML, ej, hm, fun i x hi => ⟨(hn i x hi).1, fun j y hj => ?_⟩⟩
   obtain ⟨v, b1, b2, b3, b4⟩ := (hn i x hi).2 j y hj
   exact ⟨v, b1, b2, b3.ev ev, b4⟩
  ·rw [List.getElem?_set_ne h] at hi
   simp only [Cx.new, if_neg (Ne.symm h)] at cw
   exact .inl ⟨hi, cw, hold k (hs.base _ _ cw).2⟩
 ·by_cases h : b = i
  ·subst h; simp [χ] at hi
  ·rw [List.getElem?_set_ne h] at hi
   simp only [Cx.new, if_neg (Ne.symm h)] at cw
   exact .inl ⟨hi, cw, hold k (hs.base _ _ cw).2⟩
theorem Ic {w : World} {c : Cx} {H : AH} {B : Nat} (hs : HS w c H B) {b cb : Nat} {s : List UInt8} {p : Nat} (hb : H[b]? = some (.iter s p)) (hg : c.G b = some cb)
 {bs : ByteArray} (hc : w.heap[cb]? = some (.stringIter bs p)) (uG : bs.data.toList = s) (q : Nat) :
 Ev w c H { w with heap := w.heap.setIfInBounds cb (.stringIter bs q) } c (H.set b (.iter s q)) ∧ HS { w with heap := w.heap.setIfInBounds cb (.stringIter bs q) } c (H.set b (.iter s q)) B ∧ Below B w { w with heap := w.heap.setIfInBounds cb (.stringIter bs q) } := by
 have χ := ι hb
 have m_ := hs.base b cb hg
 have other : ∀ k, k ≠ cb → ({ w with heap := w.heap.setIfInBounds cb (.stringIter bs q) } : World).heap[k]? = w.heap[k]? := fun k hk => by
  show (w.heap.setIfInBounds cb _)[k]? = _
  rw [Array.getElem?_setIfInBounds]
  simp [Ne.symm hk]
 have here : ({ w with heap := w.heap.setIfInBounds cb (.stringIter bs q) } : World).heap[cb]? = some (.stringIter bs q) := by
  show (w.heap.setIfInBounds cb _)[cb]? = _
  rw [Array.getElem?_setIfInBounds]
  simp [m_.2]
 have size : ({ w with heap := w.heap.setIfInBounds cb (.stringIter bs q) } : World).heap.size = w.heap.size := by simp
 have ev : Ev w c H { w with heap := w.heap.setIfInBounds cb (.stringIter bs q) } c (H.set b (.iter s q)) := by
  refine ⟨rfl, by rw [size]; exact Nat.le_refl _, fun i bk hi => ?_, fun k hm => ?_, fun k _ hm => other k (fun e => hm (⟨b, _, hb, rfl, by rw [e]; exact hg⟩)), fun _ _ _ _ h => h⟩
  ·by_cases h : b = i
   ·subst h
    rw [hb] at hi
    cases hi
    exact ⟨.iter s q, by simp [χ], rfl, fun _ h => h⟩
   ·refine ⟨bk, by rw [List.getElem?_set_ne h]; exact hi, ?_⟩
    cases bk with
    | dead => trivial
    | box cs => exact ⟨rfl, fun _ h => h⟩
    | iter s p => exact ⟨rfl, fun _ h => h⟩
    | arr =>
     refine ⟨rfl, rfl, rfl, Nat.le_refl _, Nat.le_refl _, fun _ => ⟨rfl, fun G1 Gu => ⟨Gu, ?_⟩⟩⟩
     have aw : G1 ≠ cb := fun e => h (hs.inj b i cb hg (by rw [← e]; exact Gu))
     simp only [dI, other G1 aw]
  ·rcases hm with ⟨i, bk, hi, gZ, cw⟩
   ·by_cases h : b = i
    ·subst h
     rw [cw] at hg; cases hg
     exact .inl ⟨b, _, hb, rfl, cw⟩
    ·rw [List.getElem?_set_ne h] at hi
     exact .inl ⟨i, bk, hi, gZ, cw⟩
 refine ⟨ev, hs.aM ev hs.inj (fun b cb h => by rw [size]; exact hs.base b cb h) (fun b cb h => by simp; exact hs.jB b cb h) (fun i k cs hi cw => ?_) (fun i k e s z g l hi cw => ?_) (fun i k s p hi cw => ?_), ?_⟩
 ·by_cases h : b = i
  ·subst h; simp [χ] at hi
  ·rw [List.getElem?_set_ne h] at hi
   exact .inl ⟨hi, cw, other k (fun e => h (hs.inj b i cb hg (by rw [← e]; exact cw)))⟩
 ·by_cases h : b = i
  ·subst h; simp [χ] at hi
  ·rw [List.getElem?_set_ne h] at hi
   exact .inl ⟨hi, cw, other k (fun e => h (hs.inj b i cb hg (by rw [← e]; exact cw)))⟩
 ·by_cases h : b = i
  ·subst h
   rw [cw] at hg; cases hg
   simp [χ] at hi
   obtain ⟨rfl, rfl⟩ := hi
   exact .inr ⟨bs, here, uG⟩
  ·rw [List.getElem?_set_ne h] at hi
   exact .inl ⟨hi, cw, other k (fun e => h (hs.inj b i cb hg (by rw [← e]; exact cw)))⟩
 ·exact ⟨rfl, rfl, rfl, by rw [size]; exact Nat.le_refl _, fun k hk => other k (by have := m_.1; omega)⟩
section
variable {P : Program} (w : World)
structure Reads (P : Program) (w : World) (size n : Nat) (x : Value) (news : List Value) : Prop where
 len : ∀ w' : World, (Builtin.lenOf x).run P w' = .ok n w'
 get : ∀ w' : World, w'.heap = w.heap → (Builtin.firstCells size n x).run P w' = .ok news.toArray w'
 num : news.length = n * size
 one : ∀ u ∈ news, u.oneCell' = true
theorem mU {size n c : Nat} {a : Addr} {news : List Value} (hl : news.length = n * size) (h : ∀ (j : Nat) v, news[j]? = some v → w.cell? (a.add j) = some v) (h1 : ∀ u ∈ news, u.oneCell' = true) :
 Reads P w size n (.slice (some a) n c) news :=
 ⟨fun w' => rfl, fun w' hw => run_firstCells_some w' size n a n c news hl (fun j v hj => by rw [← h j v hj]; simp only [World.cell?, hw]), hl, h1⟩
theorem sK {size : Nat} : Reads P w size 0 (.slice none 0 0) [] :=
 ⟨fun w' => rfl, fun w' hw => run_firstCells_none w' size 0 0 0, by simp, by simp⟩
theorem km {size : Nat} (a : Addr) (c : Nat) : Reads P w size 0 (.slice (some a) 0 c) [] :=
 mU w (by simp) (by simp) (by simp)
theorem E5 (s : ByteArray) : Reads P w 1 s.size (.string s) (s.data.toList.map fun b => .int .u8 (b.toNat : Int)) := by
 refine ⟨fun w' => rfl, fun w' _ => ?_, by rw [List.length_map, Nat.mul_one]; rfl, fun u hu => by obtain ⟨b, _, rfl⟩ := List.mem_map.1 hu; rfl⟩
 have hx : s.extract 0 s.size = s := by
  apply ByteArray.ext
  rw [ByteArray.data_extract]
  exact Array.extract_size
 simp only [Builtin.firstCells, hx, Sem.run_pure]
 congr 1
 apply Array.ext'
 simp
theorem zO (t u ty e : TypeId) (i : TypeInfo) (z : Value) (ht : P.underlying t = some (.slice e)) (hu : ∃ d, P.underlying u = some d ∧ ∀ k, d ≠ .int k) (hi : P.info? e = some i) (hz : i.zero = some z)
 (base : Option Addr) (dx gk : Nat) (kj : List Value) (ho : ∀ w' : World, w'.heap = w.heap → (Builtin.firstCells i.size dx (.slice base dx gk)).run P w' = .ok kj.toArray w')
 (x : Value) (n : Nat) (news : List Value) (hx : Reads P w i.size n x news)
 (hg : gk < dx + n) (R6 : dx + n ≤ 9223372036854775807) (bX : (dx + n) * i.bytes ≤ 140737488355328 ∨ ((dx + n) + (dx + n) / 4 + 192) * i.bytes ≤ 281474976710656) :
 (Builtin.append_ #[t, u] ty #[.slice base dx gk, x]).run P w =
  .ok (.slice (some ⟨w.heap.size, 0, none⟩) (dx + n) (grownCap w (dx + n) gk e))
   (w.drew.alloc (.cells (kj.toArray ++ news.toArray ++ Builtin.zeroCells z.cells (grownCap w (dx + n) gk e - (dx + n))) e)) := by
 obtain ⟨d, hu, hd⟩ := hu
 have hn : ¬ (dx + n ≤ gk) := by omega
 have Jj : ¬ (9223372036854775807 < ((dx : Int) + (n : Int))) := by omega
 have OF : Builtin.nextslicecap (dx + n) gk * i.bytes ≤ 281474976710656 := bX.elim (growslice_fits (by omega : gk < dx + n)) (growslice_fits_wide (by omega : gk < dx + n))
 have Jk : ¬ (281474976710656 < Builtin.nextslicecap (dx + n) gk * i.bytes) := by omega
 have hf := hx.get w.drew rfl
 have Rs := ho w.drew rfl
 have vi : (match d with | TypeDesc.int _ => true | _ => false) = false := by cases d <;> first | rfl | exact (hd _ rfl).elim
 simp [Builtin.append_, run_underlying ht, run_underlying hu, vi, sizeOf, typeInfo, zeroValue, hi, hz, hx.len, hn, Jj, Jk, Question.forced, hf, Rs, newRow, grownCap]
 congr 2
 apply Array.ext'
 simp [List.append_assoc]
theorem sF (t u ty e : TypeId) (i : TypeInfo) (ht : P.underlying t = some (.slice e)) (hu : ∃ d, P.underlying u = some d ∧ ∀ k, d ≠ .int k) (hi : P.info? e = some i)
 (g dx gk : Nat) (tD : Array Value) (hg : w.heap[g]? = some (.cells tD e (0, 0)))
 (x : Value) (n : Nat) (news : List Value) (hx : Reads P w i.size n x news)
 (we : dx + n ≤ gk) (bX : dx * i.size + news.length ≤ tD.size) :
 (Builtin.append_ #[t, u] ty #[.slice (some ⟨g, 0, none⟩) dx gk, x]).run P w =
  .ok (.slice (some ⟨g, 0, none⟩) (dx + n) gk) (w.setRow g (tD.toList.take (dx * i.size) ++ news ++ tD.toList.drop (dx * i.size + news.length)).toArray) := by
 obtain ⟨d, hu, hd⟩ := hu
 have hf := hx.get w rfl
 have ka := run_storeCells_at P g (dx * i.size) e news 0 tD w hg (by simpa using bX) hx.one
 simp only [Nat.add_zero] at ka
 have vi : (match d with | TypeDesc.int _ => true | _ => false) = false := by cases d <;> first | rfl | exact (hd _ rfl).elim
 simp [Builtin.append_, run_underlying ht, run_underlying hu, vi, sizeOf, typeInfo, hi, hx.len, we, hf, Addr.add_lit, ka]
theorem sG (t u ty e : TypeId) (i : TypeInfo) (ht : P.underlying t = some (.slice e)) (hu : ∃ d, P.underlying u = some d ∧ ∀ k, d ≠ .int k) (hi : P.info? e = some i)
 (x : Value) (news : List Value) (hx : Reads P w i.size 0 x news) :
 (Builtin.append_ #[t, u] ty #[.slice none 0 0, x]).run P w = .ok (.slice none 0 0) w := by
 obtain ⟨d, hu, hd⟩ := hu
 have hf := hx.get w rfl
 have vi : (match d with | TypeDesc.int _ => true | _ => false) = false := by cases d <;> first | rfl | exact (hd _ rfl).elim
 simp [Builtin.append_, run_underlying ht, run_underlying hu, vi, sizeOf, typeInfo, hi, hx.len, hf]
theorem sH (t u ty e : TypeId) (i : TypeInfo) (ht : P.underlying t = some (.slice e)) (hu : ∃ d, P.underlying u = some d ∧ ∀ k, d ≠ .int k) (hi : P.info? e = some i)
 (a : Addr) (x : Value) (news : List Value) (hx : Reads P w i.size 0 x news) :
 (Builtin.append_ #[t, u] ty #[.slice (some a) 0 0, x]).run P w = .ok (.slice (some a) 0 0) w := by
 obtain ⟨d, hu, hd⟩ := hu
 have hf := hx.get w rfl
 have gA := hx.num
 have : news = [] := List.eq_nil_of_length_eq_zero (by simpa using gA)
 subst this
 have vi : (match d with | TypeDesc.int _ => true | _ => false) = false := by cases d <;> first | rfl | exact (hd _ rfl).elim
 simp [Builtin.append_, run_underlying ht, run_underlying hu, vi, sizeOf, typeInfo, hi, hx.len, hf, storeCells]
end
end Go.Proofs.YtcogcbplmkcojaaGreatDoor
namespace Go.Proofs.YtcogcbplmkcojaaGreatDoor
open Go.RowKit
set_option linter.unusedVariables false
set_option linter.unusedSimpArgs false
def iE (P : Program) (m : Sem Value) (w : World) (c : Cx) (H : AH) (B : Nat) (K : AV → AH → Prop) : Prop :=
 ∃ v val w' c' H', m.run P w = .ok val w' ∧ RA w' c' H' v val ∧ HS w' c' H' B ∧ Ev w c H w' c' H' ∧ Below B w w' ∧ K v H'
theorem iE.here {P : Program} {m : Sem Value} {w c H B K v val} (hs : HS w c H B) (hr : m.run P w = .ok val w) (ha : RA w c H v val) (k : K v H) : iE P m w c H B K :=
 ⟨v, val, w, c, H, hr, ha, hs, Ev.refl _ _ _, Below.refl _ _, k⟩
theorem iE.data {P : Program} {m : Sem Value} {w c H B} {K : AV → AH → Prop} {x : T} {val : Value} (hs : HS w c H B) (hr : m.run P w = .ok val w) (ha : RT w (c.M H) x val) (k : K (.t x) H) : iE P m w c H B K :=
 .here hs hr (.t _ _ ha) k
theorem RA.int {w c H k n v} (h : RA w c H (.t (.int k n)) v) : v = .int k n := by cases h with | t _ _ h => cases h; rfl
theorem RA.bool {w c H b v} (h : RA w c H (.t (.bool b)) v) : v = .bool b := by cases h with | t _ _ h => cases h; rfl
theorem RA.str {w c H l v} (h : RA w c H (.t (.str l)) v) : ∃ s : ByteArray, v = .string s ∧ s.data.toList = l := by
 cases h with
 | t _ _ h => cases h with | str s => exact ⟨s, rfl, rfl⟩
section
variable {P : Program} {w : World}
theorem KO {st : Bool} {op : BinOp} {k k' : IntKind} {a b : Int} {K : T → Prop} (h : zt st op k a k' b K) (ty : TypeId) :
 ∃ x val, (binOp op ty (.int k a) (.int k' b)).run P w = .ok val w ∧ (∀ w M, RT w M x val) ∧ K x := by
 cases op <;> simp only [zt, ap, oM, kv] at h <;>
  first
  | (obtain ⟨hk, h⟩ := h
     obtain rfl := uY hk
     first
     | (obtain ⟨hb, h⟩ := h
        simp at hb
        exact ⟨_, _, by simp [binOp, Op.intDiv, hb], fun _ _ => .int _ _, h⟩)
     | exact ⟨_, _, by simp [binOp, Op.intArith, Op.intBits, Op.intCmp], fun _ _ => .int _ _, h⟩
     | exact ⟨_, _, by simp [binOp, Op.intArith, Op.intBits, Op.intCmp], fun _ _ => .bool _, h⟩)
  | (obtain ⟨hb, h⟩ := h
     have aC : ¬ b < 0 := by simpa using hb
     exact ⟨_, _, by simp [binOp, Op.shift, aC], fun _ _ => .int _ _, h⟩)
theorem KK {op : BinOp} {a b : List UInt8} {K : T → Prop} (h : zl op a b K) (ty : TypeId) (s u : ByteArray) (hs : s.data.toList = a) (hu : u.data.toList = b) :
 ∃ x val, (binOp op ty (.string s) (.string u)).run P w = .ok val w ∧ (∀ w M, RT w M x val) ∧ K x := by
 have h1 : s.toList = a := by rw [ByteArray.toList_eq, hs]
 have h2 : u.toList = b := by rw [ByteArray.toList_eq, hu]
 have z1 : s.size = a.length := by rw [← hs]; rfl
 have z2 : u.size = b.length := by rw [← hu]; rfl
 cases op <;> simp only [zl, ap] at h <;>
  first
  | exact h.elim
  | (obtain ⟨hb, h⟩ := h
     have aC : ¬ (((s.size + u.size : Nat) : Int) > IntKind.i64.max) := by simp at hb ⊢; omega
     refine ⟨.str (a ++ b), .string (s ++ u), by simp only [binOp, Op.stringOp, if_neg aC, Sem.run_pure], fun _ _ => ?_, h⟩
     have e : (s ++ u).data.toList = a ++ b := by simp [hs, hu]
     rw [← e]; exact .str _)
  | exact ⟨_, _, by simp [binOp, Op.stringOp, h1, h2], fun _ _ => .bool _, h⟩
theorem L1 {st : Bool} {op : UnOp} {x : AV} {K : T → Prop} {c H v} (h : BV st op x K) (hv : RA w c H x v) :
 ∃ y val, (Op.unary op v).run P w = .ok val w ∧ (∀ w M, RT w M y val) ∧ K y := by
 unfold BV at h
 split at h
 ·obtain rfl := hv.int; exact ⟨_, _, by simp [Op.unary, Op.intArith], fun _ _ => .int _ _, oM.1 h⟩
 ·obtain rfl := hv.int; exact ⟨_, _, by simp [Op.unary, Op.intBits, kv], fun _ _ => .int _ _, oM.1 h⟩
 ·obtain rfl := hv.bool; exact ⟨_, _, by simp [Op.unary], fun _ _ => .bool _, h⟩
 ·exact h.elim
theorem NX {tab : a9} (hT : bi P tab) {ty : TypeId} {y : gq} (hy : tab ty = some y) {a b : T} {u v : Value} {M : Nat → Prop} (ha : RT w M a u) (hb : RT w M b v) (h1 : tQ y.d a = true) (h2 : tQ y.d b = true)
 {p : Bool} (he : NY a b = some p) (d : Nat) : (Op.equalIn (d + 1) ty u v).run P w = .ok p w ∧ (isAgg ty).run P w = .ok false w := by
 have hd := (hT ty y hy).d
 cases jh : y.d <;> rw [jh] at hd h1 h2 <;> cases a <;> simp [tQ] at h1 <;> cases b <;> simp [tQ] at h2 <;> simp [NY] at he
 ·cases ha; cases hb; subst he; exact ⟨by simp [Op.equalIn, run_underlying hd], by simp [isAgg, run_underlying hd]⟩
 ·cases ha; cases hb
  split at he
  ·rename_i hk
   obtain rfl := uY hk
   simp at he
   subst he
   exact ⟨by simp [Op.equalIn, run_underlying hd], by simp [isAgg, run_underlying hd]⟩
  ·cases he
 ·cases ha with
  | str s =>
  cases hb with
  | str s' =>
  subst he
  refine ⟨?_, by simp [isAgg, run_underlying hd]⟩
  simp [Op.equalIn, run_underlying hd, beq_toListBytes, ByteArray.toList_eq]
theorem xX {ty : TypeId} (h : (isAgg ty).run P w = .ok false w) {cs : Array Value} {off : Nat} {v : Value} (hv : cs[off]? = some v) : (part ty cs off).run P w = .ok v w := by
 simp [part, h, hv]
theorem CC {tab : a9} (hT : bi P tab) {xs ys : List T} {us vs : Array Value} {M : Nat → Prop} (pj : xs.length = us.size) (M4 : ys.length = vs.size)
 (hx : ∀ (i : Nat) c v, xs[i]? = some c → us[i]? = some v → RT w M c v) (hy : ∀ (i : Nat) c v, ys[i]? = some c → vs[i]? = some v → RT w M c v) (d : Nat) :
 ∀ (fs : List Field) (p : Bool), A7 tab xs ys fs = some p → (Op.eqFields (d + 1) us vs fs).run P w = .ok p w
 | [], p, h => by simp [A7] at h; subst h; simp [Op.eqFields]
 | f :: r, p, h => by
  simp only [A7] at h
  split at h
  ·rename_i y a b QT ha hb
   split at h
   ·rename_i p1 q hc he hq
    simp at h hc
    obtain ⟨u, hu⟩ : ∃ u, us[f.offset]? = some u := by
     have := ι ha
     exact ⟨us[f.offset]'(by omega), Array.getElem?_eq_getElem _⟩
    obtain ⟨v, hv⟩ : ∃ v, vs[f.offset]? = some v := by
     have := ι hb
     exact ⟨vs[f.offset]'(by omega), Array.getElem?_eq_getElem _⟩
    obtain ⟨r1, r2⟩ := NX hT QT (hx _ _ _ ha hu) (hy _ _ _ hb hv) hc.1.1 hc.1.2 he d
    have ih := CC hT pj M4 hx hy d r q hq
    simp only [Op.eqFields, ne_eq, hc.2, not_false_eq_true, if_true, Sem.run_bind, xX r2 hu, xX r2 hv, Result.andThen_ok, r1, Sem.run_ite]
    cases p1
    ·simp at h; subst h; simp
    ·simp at h; subst h; simp [ih]
   ·cases h
  ·cases h
theorem uI {t : TypeId} {fs : Array Field} (h : P.underlying t = some (.struct fs)) : P.fieldsOf t = fs := by simp [Program.fieldsOf, h]
def oT : TypeDesc → Bool → Value → Prop
 | .slice _, p, u => ∃ a n m, u = .slice a n m ∧ a.isNone = p
 | .pointer _, p, u => ∃ a, u = .pointer a ∧ a.isNone = p
 | .func _ _ _, p, u => (p = true ∧ u = .nilFunc) ∨ (p = false ∧ ∃ f a b, u = .func f a b)
 | .interface _, p, u => (p = true ∧ u = .nilIface) ∨ (p = false ∧ ∃ t v, u = .iface t v)
 | _, _, _ => False
theorem BK {d : TypeDesc} {c H x u p} (hx : RA w c H x u) (h : iY d x = true) (hp : isNil H x = some p) : oT d p u := by
 cases hx with
 | t x u hx =>
  cases hx <;> cases d <;> first
   | (simp [iY] at h; done)
   | (simp [isNil] at hp; subst hp; simp [oT])
 | ptr b g i o v ν hb hm =>
  cases d <;> first
   | (simp [iY] at h; done)
   | skip
  simp only [isNil, hb] at hp
  cases ν with
  | box cells =>
   obtain ⟨cb, _, rfl⟩ := hm
   simp at hp; subst hp
   exact ⟨_, rfl, rfl⟩
  | dead => simp at hp
  | iter => simp at hp
  | arr e s z gen l =>
   simp only at hp
   split at hp
   ·rename_i hg
    obtain ⟨cb, _, rfl⟩ := hm.2 (Nat.eq_of_beq_eq_true hg)
    simp at hp; subst hp
    exact ⟨_, rfl, rfl⟩
   ·cases hp
 | sl b g i n v ν hb hm =>
  cases d <;> first
   | (simp [iY] at h; done)
   | skip
  simp only [isNil, hb] at hp
  cases ν with
  | box cells => simp at hp
  | dead => simp at hp
  | iter => simp at hp
  | arr e s z gen l =>
   simp only at hp
   split at hp
   ·rename_i hg
    have hg := Nat.eq_of_beq_eq_true hg
    simp at hp
    obtain ⟨_, h2⟩ := hm.2 hg
    rcases h2 with ⟨z1, l1, rfl⟩ | ⟨z1, l1, ad, rfl⟩ | ⟨z1, cb, cap, off, _, rfl, _⟩
    ·exact ⟨_, _, _, rfl, by rw [← hp]; simp [z1, l1]⟩
    ·exact ⟨_, _, _, rfl, by rw [← hp]; simp [z1]⟩
    ·refine ⟨_, _, _, rfl, ?_⟩
     rw [← hp]
     by_cases hz : z = true
     ·have aw : ¬ l.length = 0 := fun e => z1 ⟨hz, e⟩
      have : Nat.beq l.length 0 = false := by rw [Bool.eq_false_iff]; exact fun e => aw (Nat.eq_of_beq_eq_true e)
      simp [hz, this]
     ·simp [hz]
   ·cases hp
 | dc a =>
  cases d <;> first
   | (simp [iY] at h; done)
   | skip
  simp [isNil] at hp; subst hp; exact ⟨_, _, _, rfl, rfl⟩
 | fn f a b x y => cases d <;> first
  | (simp [iY] at h; done)
  | (simp [isNil] at hp; subst hp; simp [oT])
 | bY t x v => cases d <;> first
  | (simp [iY] at h; done)
  | (simp [isNil] at hp; subst hp; simp [oT])
 | agg => simp [isNil] at hp
 | ao => simp [isNil] at hp
 | bj => simp [isNil] at hp
theorem iU {ty : TypeId} {u v : Value} {p : Bool} (he : ∀ d, (Op.equalIn (d + 1) ty u v).run P w = .ok p w)
 (h1 : binOp .eql ty u v = (do pure (.bool (← Op.equal ty u v)))) (h2 : binOp .neq ty u v = (do pure (.bool (!(← Op.equal ty u v))))) :
 (binOp .eql ty u v).run P w = .ok (.bool p) w ∧ (binOp .neq ty u v).run P w = .ok (.bool (!p)) w := by
 have e : (Op.equal ty u v).run P w = .ok p w := he 9999
 rw [h1, h2]
 simp only [Sem.run_bind, e, Result.andThen_ok, Sem.run_pure, and_self]
theorem ve {tab : a9} (hT : bi P tab) {ty : TypeId} {y : gq} (hy : tab ty = some y) {c H x n u v} (hx : RA w c H x u) (hn : RA w c H n v) (h1 : jr y.d n = true) (h2 : iY y.d x = true)
 {p : Bool} (hp : isNil H x = some p) (yc : Bool) (hc : (yc || !vf y.d) = true) (o : BinOp) (xo yo : Operand) (F3 : yc = isConst yo) :
 (eqGuard o ty xo yo u v).run P w = .ok () w ∧ (binOp .eql ty u v).run P w = .ok (.bool p) w ∧ (binOp .neq ty u v).run P w = .ok (.bool (!p)) w := by
 have hd := (hT ty y hy).d
 have kc := BK (d := y.d) hx h2 hp
 cases jh : y.d <;> rw [jh] at hd h1 kc hc <;> (try (simp [oT] at kc; done))
 case slice e =>
  obtain ⟨a, k, m, rfl, rfl⟩ := kc
  have hv : v = .slice none 0 0 := by
   cases n <;> simp [jr] at h1
   rename_i x; cases x <;> simp [jr] at h1
   cases hn with | t _ _ hn => cases hn; rfl
  subst hv
  cases a <;> exact ⟨by rw [eqGuard_at_slice]; rfl, iU (fun d => by simp [Op.equalIn, run_underlying hd]) rfl rfl⟩
 case pointer e =>
  obtain ⟨a, rfl, rfl⟩ := kc
  have hv : v = .pointer none := by
   cases n <;> simp [jr] at h1
   rename_i x; cases x <;> simp [jr] at h1
   cases hn with | t _ _ hn => cases hn; rfl
  subst hv
  cases a <;> exact ⟨by rw [eqGuard_at_pointer]; rfl, iU (fun d => by simp [Op.equalIn, run_underlying hd]) rfl rfl⟩
 case func p1 p2 p3 =>
  have hv : v = .nilFunc := by
   cases n <;> simp [jr] at h1
   rename_i x; cases x <;> simp [jr] at h1
   cases hn with | t _ _ hn => cases hn; rfl
  subst hv
  rcases kc with ⟨rfl, rfl⟩ | ⟨rfl, f, a, b, rfl⟩
  ·exact ⟨by rw [eqGuard_at_nilFunc]; rfl, iU (fun d => by simp [Op.equalIn, run_underlying hd]) rfl rfl⟩
  ·exact ⟨by rw [eqGuard_at_func]; rfl, iU (fun d => by simp [Op.equalIn, run_underlying hd]) rfl rfl⟩
 case interface ms =>
  have hv : v = .nilIface := by
   cases n <;> simp [jr] at h1
   rename_i x; cases x <;> simp [jr] at h1
   cases hn with | t _ _ hn => cases hn; rfl
  subst hv
  simp [vf] at hc
  subst hc
  obtain ⟨cv, rfl⟩ : ∃ cv, yo = .const cv := by cases yo <;> simp [isConst] at F3; exact ⟨_, rfl⟩
  rcases kc with ⟨rfl, rfl⟩ | ⟨rfl, t, b, rfl⟩
  ·exact ⟨by rw [eqGuard_nil_constR]; rfl, iU (fun d => by simp [Op.equalIn, run_underlying hd]) rfl rfl⟩
  ·exact ⟨by rw [eqGuard_at_iface]; rfl, iU (fun d => by simp [Op.equalIn, run_underlying hd]) rfl rfl⟩
theorem RA.iR {c H x v} (h : RA w c H x v) : RA w c H (iR x) v := by
 cases x <;> simp only [Go.Proofs.YtcogcbplmkcojaaGreatDoor.iR] <;> try exact h
 rename_i cs
 split
 ·rename_i l hl
  have key : ∀ (cs : List AV) (l : List T), ic cs = some l → l.length = cs.length ∧ ∀ (i : Nat) y, l[i]? = some y → cs[i]? = some (.t y) := by
   intro cs
   induction cs with
   | nil => intro l h; simp [ic] at h; subst h; simp
   | cons a r ih =>
    intro l h
    simp only [ic] at h
    split at h
    ·rename_i x l' hx td
     cases h
     obtain ⟨h1, h2⟩ := ih l' td
     have ha : a = .t x := by cases a <;> simp [xe] at hx; rw [hx]
     refine ⟨by simp [h1], fun i y hi => ?_⟩
     cases i with
     | zero => simp at hi ⊢; rw [ha, hi]
     | succ i => simp at hi ⊢; exact h2 i y hi
    ·cases h
  obtain ⟨k1, k2⟩ := key cs l hl
  cases h with
  | agg _ vs hlen h1 hr =>
   refine .t _ _ (.agg l vs (by omega) (fun i y hi => ?_) (fun i y v hi hv => ?_))
   ·have := h1 i _ (k2 i y hi); simpa [AV.one] using this
   ·have := hr i _ v (k2 i y hi) hv
    cases this with | t _ _ h => exact h
 ·exact h
theorem Ek {tab : a9} (hT : bi P tab) {ty : TypeId} {c H x y u v} {yc : Bool} {K : Bool → Prop} (h : sr tab ty H x y yc K) (hx : RA w c H x u) (hy : RA w c H y v)
 (xo yo : Operand) (F3 : yc = isConst yo) : ∃ p, (∀ o, (eqGuard o ty xo yo u v).run P w = .ok () w) ∧ (binOp .eql ty u v).run P w = .ok (.bool p) w ∧ (binOp .neq ty u v).run P w = .ok (.bool (!p)) w ∧ K p := by
 unfold sr at h
 rw [Γ] at h
 obtain ⟨i, hi, h⟩ := h
 have hd := (hT ty i hi).d
 split at h
 ·obtain rfl := hx.bool; obtain rfl := hy.bool
  rename_i a b
  rw [ap] at h
  obtain ⟨hc, h⟩ := h
  have hb : i.d = .bool := by cases Rw : i.d <;> simp [Rw] at hc <;> rfl
  rw [hb] at hd
  have e := iU (P := P) (w := w) (ty := ty) (u := .bool a) (v := .bool b) (p := a == b) (fun d => by simp [Op.equalIn, run_underlying hd]) rfl rfl
  exact ⟨a == b, fun o => by rw [eqGuard_at_bool]; rfl, e.1, e.2, h⟩
 ·rename_i a b
  split at h
  ·rename_i fs hf
   obtain ⟨de, h⟩ := h
   rw [Γ] at h
   obtain ⟨p, hp, h⟩ := h
   obtain ⟨k1, k2⟩ := (hT ty i hi).eq de
   rw [hf] at hd
   cases hx with | t _ _ hx => cases hx with | agg _ us pj _ fo =>
   cases hy with | t _ _ hy => cases hy with | agg _ vs M4 _ yu =>
   have e := CC hT pj M4 fo yu 9998 fs.toList p hp
   have e2 : (Op.equalIn 10000 ty (.agg us) (.agg vs)).run P w = .ok p w := by
    rw [run_equalIn_struct w 9999 ty us vs (by rw [uI hd]; exact hd) k1, uI hd]; exact e
   exact ⟨p, fun o => run_eqGuard_agg w o ty xo yo us vs k2, by rw [run_eql_struct, e2]; rfl, by rw [run_neq_struct, e2]; rfl, h⟩
  ·exact h.elim
 ·rw [ap] at h
  obtain ⟨hc, h⟩ := h
  simp at hc
  rw [Γ] at h
  obtain ⟨p, hp, h⟩ := h
  exact ⟨p, fun o => (ve hT hi hx hy hc.1.1.2 hc.1.2 hp yc (by simpa using hc.2) o xo yo F3).1, (ve hT hi hx hy hc.1.1.2 hc.1.2 hp yc (by simpa using hc.2) .eql xo yo F3).2.1, (ve hT hi hx hy hc.1.1.2 hc.1.2 hp yc (by simpa using hc.2) .eql xo yo F3).2.2, h⟩
end
end Go.Proofs.YtcogcbplmkcojaaGreatDoor
namespace Go.Proofs.YtcogcbplmkcojaaGreatDoor
open Go.RowKit
set_option linter.unusedVariables false
set_option linter.unusedSimpArgs false
section
variable {P : Program} {w : World}
theorem pM {tab : a9} (hT : bi P tab) {t : TypeId} {y : gq} (hy : tab t = some y) (w : World) : (isAgg t).run P w = .ok y.isAgg w := by
 have hd := (hT t y hy).d
 simp only [isAgg, Sem.run_bind, run_underlying hd, Result.andThen_ok, gq.isAgg]
 cases y.d <;> rfl
theorem run_sizeOf {tab : a9} (hT : bi P tab) {t : TypeId} {y : gq} (hy : tab t = some y) (w : World) : (sizeOf t).run P w = .ok y.size w := by
 obtain ⟨i, hi, hs, _⟩ := (hT t y hy).DA
 simp [sizeOf, typeInfo, hi, hs]
theorem pL {tab : a9} (hT : bi P tab) {t : TypeId} {y : gq} (hy : tab t = some y) (ha : y.isAgg = true) {b off : Nat} {vals : List Value} (hl : vals.length = y.size)
 (h : ∀ (j : Nat) v, vals[j]? = some v → w.cell? ⟨b, off + j, none⟩ = some v) : (loadVar t ⟨b, off, none⟩).run P w = .ok (.agg vals.toArray) w := by
 have e := run_loadCells_list (P := P) w ⟨b, off, none⟩ vals (fun j v hj => by rw [Addr.add_lit]; exact h j v hj)
 rw [hl] at e
 simp [loadVar, pM hT hy, ha, run_sizeOf hT hy, e]
theorem pK {tab : a9} (hT : bi P tab) {t : TypeId} {y : gq} (hy : tab t = some y) (ha : y.isAgg = false) {b off : Nat} {v : Value}
 (h : w.cell? ⟨b, off, none⟩ = some v) : (loadVar t ⟨b, off, none⟩).run P w = .ok v w := by
 simp [loadVar, pM hT hy, ha, h]
theorem sD {tab : a9} (hT : bi P tab) {t : TypeId} {y : gq} (hy : tab t = some y) (ha : y.isAgg = true) (cs : Array Value) (off : Nat) :
 (part t cs off).run P w = .ok (.agg (cs.extract off (off + y.size))) w := by
 simp [part, pM hT hy, ha, run_sizeOf hT hy]
theorem sC {tab : a9} (hT : bi P tab) {t : TypeId} {y : gq} (hy : tab t = some y) (ha : y.isAgg = false) {cs : Array Value} {off : Nat} {v : Value} (h : cs[off]? = some v) :
 (part t cs off).run P w = .ok v w := by
 simp [part, pM hT hy, ha, h]
theorem bg {α : Type} {l : List α} {o n i : Nat} {x : α} (h : ((l.drop o).take n)[i]? = some x) : i < n ∧ l[o + i]? = some x := by
 rw [List.getElem?_take] at h
 split at h
 ·rw [List.getElem?_drop] at h; exact ⟨‹_›, h⟩
 ·cases h
theorem gD {α : Type} {a : Array α} {i : Nat} (h : i < a.size) : ∃ v, a[i]? = some v := ⟨a[i], Array.getElem?_eq_getElem h⟩
theorem zZ {tab : a9} (hT : bi P tab) {t : TypeId} {y : gq} (hy : tab t = some y) {c H} {cells : List AV} {vs : Array Value} (hl : cells.length = vs.size) (h1 : ∀ (i : Nat) x, cells[i]? = some x → x.one = true)
 (hr : ∀ (i : Nat) x v, cells[i]? = some x → vs[i]? = some v → RA w c H x v) {o : Nat} {K : AV → Prop} (h : mZ y cells o K) :
 ∃ x val, (part t vs o).run P w = .ok val w ∧ RA w c H x val ∧ K x := by
 unfold mZ at h
 split at h
 ·rename_i ha
  rw [ap] at h
  obtain ⟨hb, k⟩ := h
  have hb := Nat.le_of_ble_eq_true hb
  refine ⟨_, _, sD hT hy ha vs o, .agg _ _ (by simp; omega) (fun i x hi => h1 _ x (bg hi).2) (fun i x v hi hv => ?_), k⟩
  obtain ⟨χ, hi⟩ := bg hi
  refine hr _ x v hi ?_
  rw [Array.getElem?_extract] at hv
  split at hv
  ·exact hv
  ·cases hv
 ·rename_i ha
  rw [Γ] at h
  obtain ⟨x, hx, k⟩ := h
  obtain ⟨v, hv⟩ := gD (a := vs) (i := o) (by have := ι hx; omega)
  exact ⟨x, v, sC hT hy ha hv, hr o x v hx hv, k⟩
theorem zY {tab : a9} (hT : bi P tab) {t : TypeId} {y : gq} (hy : tab t = some y) {M : Nat → Prop} {cells : List T} {vs : Array Value} (hl : cells.length = vs.size) (h1 : ∀ (i : Nat) x, cells[i]? = some x → x.one = true)
 (hr : ∀ (i : Nat) x v, cells[i]? = some x → vs[i]? = some v → RT w M x v) {o : Nat} {K : T → Prop} (h : mY y cells o K) :
 ∃ x val, (part t vs o).run P w = .ok val w ∧ RT w M x val ∧ K x := by
 unfold mY at h
 split at h
 ·rename_i ha
  rw [ap] at h
  obtain ⟨hb, k⟩ := h
  have hb := Nat.le_of_ble_eq_true hb
  refine ⟨_, _, sD hT hy ha vs o, .agg _ _ (by simp; omega) (fun i x hi => h1 _ x (bg hi).2) (fun i x v hi hv => ?_), k⟩
  obtain ⟨χ, hi⟩ := bg hi
  refine hr _ x v hi ?_
  rw [Array.getElem?_extract] at hv
  split at hv
  ·exact hv
  ·cases hv
 ·rename_i ha
  rw [Γ] at h
  obtain ⟨x, hx, k⟩ := h
  obtain ⟨v, hv⟩ := gD (a := vs) (i := o) (by have := ι hx; omega)
  exact ⟨x, v, sC hT hy ha hv, hr o x v hx hv, k⟩
theorem Ai {tab : a9} (hT : bi P tab) {t : TypeId} {y : gq} (hy : tab t = some y) {c H} {cells : List AV} {b off : Nat} (vals : Nat → Value)
 (hr : ∀ (i : Nat) x, cells[i]? = some x → x.one = true ∧ w.cell? ⟨b, off + i, none⟩ = some (vals i) ∧ RA w c H x (vals i)) {o : Nat} {K : AV → Prop} (h : mZ y cells o K) :
 ∃ x val, (loadVar t ⟨b, off + o, none⟩).run P w = .ok val w ∧ RA w c H x val ∧ K x := by
 unfold mZ at h
 split at h
 ·rename_i ha
  rw [ap] at h
  obtain ⟨hb, k⟩ := h
  have hb := Nat.le_of_ble_eq_true hb
  have cell : ∀ j, j < y.size → w.cell? ⟨b, off + o + j, none⟩ = some (vals (o + j)) := fun j hj => by
   have := (hr (o + j) _ (List.getElem?_eq_getElem (by omega))).2.1
   rw [Nat.add_assoc]; exact this
  refine ⟨_, _, pL hT hy ha (vals := (List.range y.size).map fun j => vals (o + j)) (by simp) (fun j v hj => ?_), .agg _ _ (by simp; omega) (fun i x hi => (hr _ x (bg hi).2).1) (fun i x v hi hv => ?_), k⟩
  ·simp only [List.getElem?_map, Option.map_eq_some_iff] at hj
   obtain ⟨k, hk, rfl⟩ := hj
   have := ι hk
   rw [List.length_range] at this
   rw [List.getElem?_range this] at hk
   cases hk
   exact cell _ this
  ·obtain ⟨χ, hi⟩ := bg hi
   have : v = vals (o + i) := by simp [χ] at hv; exact hv.symm
   subst this
   exact (hr _ x hi).2.2
 ·rename_i ha
  rw [Γ] at h
  obtain ⟨x, hx, k⟩ := h
  exact ⟨x, _, pK hT hy ha (hr o x hx).2.1, (hr o x hx).2.2, k⟩
theorem Ah {tab : a9} (hT : bi P tab) {t : TypeId} {y : gq} (hy : tab t = some y) {M : Nat → Prop} {cells : List T} {b off : Nat} (vals : Nat → Value)
 (hr : ∀ (i : Nat) x, cells[i]? = some x → x.one = true ∧ w.cell? ⟨b, off + i, none⟩ = some (vals i) ∧ RT w M x (vals i)) {o : Nat} {K : T → Prop} (h : mY y cells o K) :
 ∃ x val, (loadVar t ⟨b, off + o, none⟩).run P w = .ok val w ∧ RT w M x val ∧ K x := by
 unfold mY at h
 split at h
 ·rename_i ha
  rw [ap] at h
  obtain ⟨hb, k⟩ := h
  have hb := Nat.le_of_ble_eq_true hb
  have cell : ∀ j, j < y.size → w.cell? ⟨b, off + o + j, none⟩ = some (vals (o + j)) := fun j hj => by
   have := (hr (o + j) _ (List.getElem?_eq_getElem (by omega))).2.1
   rw [Nat.add_assoc]; exact this
  refine ⟨_, _, pL hT hy ha (vals := (List.range y.size).map fun j => vals (o + j)) (by simp) (fun j v hj => ?_), .agg _ _ (by simp; omega) (fun i x hi => (hr _ x (bg hi).2).1) (fun i x v hi hv => ?_), k⟩
  ·simp only [List.getElem?_map, Option.map_eq_some_iff] at hj
   obtain ⟨k, hk, rfl⟩ := hj
   have := ι hk
   rw [List.length_range] at this
   rw [List.getElem?_range this] at hk
   cases hk
   exact cell _ this
  ·obtain ⟨χ, hi⟩ := bg hi
   have : v = vals (o + i) := by simp [χ] at hv; exact hv.symm
   subst this
   exact (hr _ x hi).2.2
 ·rename_i ha
  rw [Γ] at h
  obtain ⟨x, hx, k⟩ := h
  exact ⟨x, _, pK hT hy ha (hr o x hx).2.1, (hr o x hx).2.2, k⟩
theorem jQ {cb j : Nat} {arr : Array Value} {e : TypeId} {fz : Nat × Nat} (h : w.heap[cb]? = some (.cells arr e fz)) : w.cell? ⟨cb, j, none⟩ = arr[j]? := by
 simp [World.cell?, h]
theorem zr {tab : a9} (hT : bi P tab) {t : TypeId} {c H B a v} {K : AV → Prop} (hs : HS w c H B) (h : mO tab t H a K) (ha : RA w c H a v) :
 ∃ x val, (Instr.loadAt t v).run P w = .ok val w ∧ RA w c H x val ∧ K x := by
 unfold mO at h
 rw [Γ] at h
 obtain ⟨y, hy, h⟩ := h
 split at h
 ·rename_i cells
  cases ha with | t _ _ ha => cases ha with | cO _ b off vals hM hc hr =>
  obtain ⟨x, val, r, rt, k⟩ := Ah (w := w) hT hy (M := c.M H) (b := b) (off := off) vals (fun i x hi => ⟨(hc i x hi).2, (hc i x hi).1, hr i x hi⟩) h
  exact ⟨.t x, val, by simpa [Instr.loadAt, Instr.sureAddr] using r, .t _ _ rt, k⟩
 ·rename_i b g i o
  cases ha with | ptr _ _ _ _ _ ν hb hm =>
  rw [hb] at h
  cases ν with
  | dead => exact h.elim
  | iter => exact h.elim
  | box cells =>
   obtain ⟨cb, hg, rfl⟩ := hm
   obtain ⟨arr, e, h1, h2, h3⟩ := hs.box b cb cells hb hg
   obtain ⟨x, val, r, rt, k⟩ := Ai (w := w) hT hy (c := c) (H := H) (b := cb) (off := 0) (fun i => arr.getD i undef) (fun i x hi => by
    obtain ⟨v, hv⟩ := gD (a := arr) (i := i) (by have := ι hi; omega)
    have := h3 i x v hi hv
    refine ⟨this.1, by rw [Nat.zero_add, jQ h1, hv]; simp [Array.getD_eq_getD_getElem?, hv], by simpa [Array.getD_eq_getD_getElem?, hv] using this.2.1⟩) h
   rw [Nat.zero_add] at r
   exact ⟨x, val, by simpa [Instr.loadAt, Instr.sureAddr] using r, rt, k⟩
  | arr e s z gen l =>
   cases l with
   | vs l =>
    simp only at h
    rw [ap] at h
    obtain ⟨fq, h⟩ := h
    rw [Γ] at h
    obtain ⟨x0, eD, h⟩ := h
    obtain ⟨cb, hg, rfl⟩ := hm.2 (Nat.eq_of_beq_eq_true fq)
    obtain ⟨arr, cap, h1, h2, h3, h4, h5⟩ := hs.arr b cb e s z gen _ hb hg
    obtain ⟨h6, h7⟩ := h5 i x0 eD
    obtain ⟨x, val, r, rt, k⟩ := Ai (w := w) hT hy (c := c) (H := H) (b := cb) (off := i * s) (fun j => arr.getD (i * s + j) undef) (fun j y hj => by
     obtain ⟨v, hv, b2, b3, b4⟩ := h7 j y hj
     exact ⟨b2, by rw [jQ h1, hv]; simp [Array.getD_eq_getD_getElem?, hv], by simpa [Array.getD_eq_getD_getElem?, hv] using b3⟩) h
    exact ⟨x, val, by simpa [Instr.loadAt, Instr.sureAddr] using r, rt, k⟩
   | ts l =>
    simp only at h
    rw [ap] at h
    obtain ⟨fq, h⟩ := h
    rw [Γ] at h
    obtain ⟨x0, eD, h⟩ := h
    obtain ⟨cb, hg, rfl⟩ := hm.2 (Nat.eq_of_beq_eq_true fq)
    obtain ⟨arr, cap, h1, h2, h3, h4, h5⟩ := hs.arr b cb e s z gen _ hb hg
    obtain ⟨h6, h7⟩ := dh.ts.1 h5 i x0 eD
    obtain ⟨x, val, r, rt, k⟩ := Ah (w := w) hT hy (M := c.M H) (b := cb) (off := i * s) (fun j => arr.getD (i * s + j) undef) (fun j y hj => by
     obtain ⟨v, hv, b2, b3, b4⟩ := h7 j y hj
     exact ⟨b2, by rw [jQ h1, hv]; simp [Array.getD_eq_getD_getElem?, hv], by simpa [Array.getD_eq_getD_getElem?, hv] using b3⟩) h
    exact ⟨.t x, val, by simpa [Instr.loadAt, Instr.sureAddr] using r, .t _ _ rt, k⟩
 ·exact h.elim
theorem wF {y : gq} {k : Nat} {f : Field} (h : ud y k = some f) : ∃ fs, y.d = .struct fs ∧ fs[k]? = some f := by
 unfold ud at h
 split at h
 ·exact ⟨_, ‹_›, h⟩
 ·cases h
theorem y3 {tab : a9} (hT : bi P tab) {t : TypeId} {c H a v k} {K : AV → Prop} (h : fZ tab t H a k K) (ha : RA w c H a v) :
 ∃ x val, (Instr.fieldAt t v k).run P w = .ok val w ∧ RA w c H x val ∧ K x := by
 unfold fZ at h
 rw [Γ] at h
 obtain ⟨y, hy, h⟩ := h
 rw [Γ] at h
 obtain ⟨f, hf, h⟩ := h
 rw [Γ] at h
 obtain ⟨z, hz, h⟩ := h
 rw [ap] at h
 obtain ⟨bH, h⟩ := h
 have bH := Nat.le_of_ble_eq_true bH
 obtain ⟨fs, Gp, AP⟩ := wF hf
 have hd := (hT t y hy).d
 rw [Gp] at hd
 have run : ∀ b o, (Instr.fieldAt t (.pointer (some ⟨b, o, none⟩)) k).run P w = .ok (.pointer (some ⟨b, o + f.offset, none⟩)) w := by
  intro b o
  have aw : ¬ z.size = 0 := by omega
  simp [Instr.fieldAt, run_underlying hd, AP, Instr.sureAddr, fieldPlace, run_sizeOf hT hz, aw, Addr.add_lit]
 split at h
 ·rename_i cells
  cases ha with | t _ _ ha => cases ha with | cO _ b off vals hM hc hr =>
  refine ⟨_, _, run b off, .t _ _ (.cO _ b (off + f.offset) (fun i => vals (f.offset + i)) (fun aw => hM (fun e => aw (by simp [e]))) (fun i x hi => ?_) (fun i x hi => ?_)), h⟩
  ·rw [List.getElem?_drop] at hi; rw [Nat.add_assoc]; exact hc _ x hi
  ·rw [List.getElem?_drop] at hi; exact hr _ x hi
 ·rename_i b g i o
  cases ha with | ptr _ _ _ _ _ ν hb hm =>
  rw [hb] at h
  cases ν with
  | dead => exact h.elim
  | iter => exact h.elim
  | box cells =>
   obtain ⟨cb, hg, rfl⟩ := hm
   exact ⟨_, _, run cb o, .ptr _ _ _ _ _ _ hb ⟨cb, hg, rfl⟩, h⟩
  | arr e s z gen l =>
   simp only at h
   rw [ap] at h
   obtain ⟨fq, h⟩ := h
   obtain ⟨cb, hg, rfl⟩ := hm.2 (Nat.eq_of_beq_eq_true fq)
   exact ⟨_, _, run cb _, .ptr _ _ _ _ _ _ hb ⟨hm.1, fun _ => ⟨cb, hg, by rw [Nat.add_assoc]⟩⟩, h⟩
 ·exact h.elim
theorem Ej {tab : a9} (hT : bi P tab) {t : TypeId} {c H a v k} {K : AV → Prop} (h : qw tab t a k K) (ha : RA w c H a v) :
 ∃ x val, (Instr.field t v k).run P w = .ok val w ∧ RA w c H x val ∧ K x := by
 unfold qw at h
 rw [Γ] at h
 obtain ⟨y, hy, h⟩ := h
 rw [Γ] at h
 obtain ⟨f, hf, h⟩ := h
 rw [Γ] at h
 obtain ⟨z, hz, h⟩ := h
 obtain ⟨fs, Gp, AP⟩ := wF hf
 have hd := (hT t y hy).d
 rw [Gp] at hd
 split at h
 ·cases ha with | t _ _ ha => cases ha with | agg _ vs hl h1 hr =>
  obtain ⟨x, val, r, rt, k⟩ := zY (w := w) hT hz hl h1 hr h
  exact ⟨.t x, val, by simpa [Instr.field, run_underlying hd, AP, asAgg] using r, .t _ _ rt, k⟩
 ·cases ha with | agg _ vs hl h1 hr =>
  obtain ⟨x, val, r, rt, k⟩ := zZ (w := w) hT hz hl h1 hr h
  exact ⟨x, val, by simpa [Instr.field, run_underlying hd, AP, asAgg] using r, rt, k⟩
 ·exact h.elim
theorem o_ {i : Int} {n : Nat} (h : pc i n = true) : 0 ≤ i ∧ i < n ∧ i.toNat < n ∧ (i.toNat : Int) = i := by
 simp [pc] at h; omega
theorem yY {tab : a9} (hT : bi P tab) {t : TypeId} {c H a v ix iv} {K : AV → Prop} (h : fY tab t H a ix K) (ha : RA w c H a v) (hi : RA w c H ix iv) :
 ∃ x val, (Instr.indexAt t v iv).run P w = .ok val w ∧ RA w c H x val ∧ K x := by
 unfold fY at h
 rw [Γ] at h
 obtain ⟨y, hy, h⟩ := h
 have hd := (hT t y hy).d
 split at h
 ·rename_i k i
  obtain rfl := hi.int
  split at h
  ·rename_i e s l jh
   rw [jh] at hd
   rw [Γ] at h
   obtain ⟨z, hz, h⟩ := h
   rw [ap] at h
   obtain ⟨hb, h⟩ := h
   simp at hb
   rw [Γ] at h
   obtain ⟨x, hx, h⟩ := h
   cases ha with | t _ _ ha => cases ha with | vec _ _ b off cap sp vals hM ej iI kb hc hr =>
   obtain rfl := iI (fun e => by subst e; simp at hx)
   have χ := ι hx
   have aG : 0 ≤ i ∧ i < (l.length : Int) := by omega
   have bH := run_sizeOf hT hz w
   refine ⟨_, .pointer (some ⟨b, off + i.toNat * z.size, none⟩), ?_, .t _ _ (.cO x.cells b _ (fun j => vals i.toNat j) (fun aw => ?_) (fun j y hj => ?_) (fun j y hj => ?_)), h⟩
   ·simp [Instr.indexAt, asIntOf, run_underlying hd, aG, bH, Addr.add_lit]
   ·refine hM (fun e => by simp [e] at χ) ?_
    have := kb _ x hx
    have : x.cells.length ≠ 0 := fun e => aw (List.eq_nil_of_length_eq_zero e)
    omega
   ·have := hc _ x j y hx hj
    rw [← hb.1]; exact this
   ·exact hr _ x j y hx hj
  ·rename_i e s l jh
   rw [jh] at hd
   rw [Γ] at h
   obtain ⟨z, hz, h⟩ := h
   rw [ap] at h
   obtain ⟨hb, h⟩ := h
   simp at hb
   rw [Γ] at h
   obtain ⟨x, hx, h⟩ := h
   cases ha with | t _ _ ha =>
   obtain ⟨ha⟩ : Nonempty (RT w (c.M H) (.vec s l) v) := by
    cases ha with
    | kA => simp at hx
    | κ _ _ _ ha => exact ⟨ha⟩
   cases ha with | vec _ _ b off cap sp vals hM ej iI kb hc hr =>
   obtain rfl := iI (fun e => by subst e; simp at hx)
   have χ := ι hx
   have aG : 0 ≤ i ∧ i < (l.length : Int) := by omega
   have bH := run_sizeOf hT hz w
   refine ⟨_, .pointer (some ⟨b, off + i.toNat * z.size, none⟩), ?_, .t _ _ (.cO x.cells b _ (fun j => vals i.toNat j) (fun aw => ?_) (fun j y hj => ?_) (fun j y hj => ?_)), h⟩
   ·simp [Instr.indexAt, asIntOf, run_underlying hd, aG, bH, Addr.add_lit]
   ·refine hM (fun e => by simp [e] at χ) ?_
    have := kb _ x hx
    have : x.cells.length ≠ 0 := fun e => aw (List.eq_nil_of_length_eq_zero e)
    omega
   ·have := hc _ x j y hx hj
    rw [← hb.1]; exact this
   ·exact hr _ x j y hx hj
  ·rename_i e b g j len jh
   rw [jh] at hd
   rw [Γ] at h
   obtain ⟨z, hz, h⟩ := h
   cases ha with | sl _ _ _ _ _ ν hb hm =>
   rw [hb] at h
   cases ν with
   | dead => exact h.elim
   | box => exact h.elim
   | iter => exact h.elim
   | arr e' s z' gen l =>
    simp only at h
    rw [ap] at h
    obtain ⟨hc, h⟩ := h
    simp only [Bool.and_eq_true] at hc
    obtain ⟨⟨qO, dd⟩, aG⟩ := hc
    have qO := Nat.eq_of_beq_eq_true qO
    have dd := Nat.eq_of_beq_eq_true dd
    obtain ⟨i0, i1, i2, i3⟩ := o_ aG
    obtain ⟨hlen, hm⟩ := hm.2 qO
    rcases hm with ⟨_, l0, _⟩ | ⟨_, l0, _⟩ | ⟨_, cb, cap, off, hg, rfl, rO, ej, qL, lL, lK⟩
    ·omega
    ·omega
    ·have t_ : off = j * s := lL.resolve_left (by omega)
     subst t_
     have bH := run_sizeOf hT hz w
     have Qb : 0 ≤ i ∧ i < (len : Int) := ⟨i0, i1⟩
     refine ⟨_, .pointer (some ⟨cb, j * s + i.toNat * z.size, none⟩), ?_, .ptr _ _ _ _ _ _ hb ⟨by omega, fun _ => ⟨cb, hg, ?_⟩⟩, h⟩
     ·simp [Instr.indexAt, asIntOf, run_underlying hd, Qb, bH, Addr.add_lit]
     ·rw [← dd, Nat.add_mul, Nat.add_zero]
  ·rename_i n e b g j o jh
   rw [jh] at hd
   rw [Γ] at h
   obtain ⟨z, hz, h⟩ := h
   rw [ap] at h
   obtain ⟨aG, h⟩ := h
   obtain ⟨i0, i1, i2, i3⟩ := o_ aG
   have bH := run_sizeOf hT hz w
   have run : ∀ cb q, (Instr.indexAt t (.pointer (some ⟨cb, q, none⟩)) (.int k i)).run P w = .ok (.pointer (some ⟨cb, q + i.toNat * z.size, none⟩)) w := by
    intro cb q
    simp [Instr.indexAt, asIntOf, run_underlying hd, Instr.sureAddr, i0, i1, bH, Addr.add_lit]
   cases ha with | ptr _ _ _ _ _ ν hb hm =>
   rw [hb] at h
   cases ν with
   | dead => exact h.elim
   | iter => exact h.elim
   | box cells =>
    obtain ⟨cb, hg, rfl⟩ := hm
    exact ⟨_, _, run cb o, .ptr _ _ _ _ _ _ hb ⟨cb, hg, rfl⟩, h⟩
   | arr e' s z' gen l =>
    simp only at h
    rw [ap] at h
    obtain ⟨fq, h⟩ := h
    obtain ⟨cb, hg, rfl⟩ := hm.2 (Nat.eq_of_beq_eq_true fq)
    exact ⟨_, _, run cb _, .ptr _ _ _ _ _ _ hb ⟨hm.1, fun _ => ⟨cb, hg, by rw [Nat.add_assoc]⟩⟩, h⟩
  ·rename_i n e cells jh
   rw [jh] at hd
   rw [Γ] at h
   obtain ⟨z, hz, h⟩ := h
   rw [ap] at h
   obtain ⟨aG, h⟩ := h
   obtain ⟨i0, i1, i2, i3⟩ := o_ aG
   have bH := run_sizeOf hT hz w
   cases ha with | t _ _ ha => cases ha with | cO _ b off vals hM hc hr =>
   refine ⟨_, .pointer (some ⟨b, off + i.toNat * z.size, none⟩), ?_, .t _ _ (.cO _ b _ (fun j => vals (i.toNat * z.size + j)) (fun aw => hM (fun e => aw (by simp [e]))) (fun j x hj => ?_) (fun j x hj => ?_)), h⟩
   ·simp [Instr.indexAt, asIntOf, run_underlying hd, Instr.sureAddr, i0, i1, bH, Addr.add_lit]
   ·rw [List.getElem?_drop] at hj; rw [Nat.add_assoc]; exact hc _ x hj
   ·rw [List.getElem?_drop] at hj; exact hr _ x hj
  ·exact h.elim
 ·exact h.elim
theorem Eh {tab : a9} (hT : bi P tab) {t : TypeId} {c H a v ix iv} {K : AV → Prop} (h : qv tab t a ix K) (ha : RA w c H a v) (hi : RA w c H ix iv) :
 ∃ x val, (Instr.index t v iv).run P w = .ok val w ∧ RA w c H x val ∧ K x := by
 unfold qv at h
 rw [Γ] at h
 obtain ⟨y, hy, h⟩ := h
 have hd := (hT t y hy).d
 split at h
 ·rename_i k i
  obtain rfl := hi.int
  split at h
  ·rename_i s jh
   rw [jh] at hd
   rw [ap] at h
   obtain ⟨hb, h⟩ := h
   simp at hb
   rw [Γ] at h
   obtain ⟨x, hx, h⟩ := h
   obtain ⟨bs, rfl, rfl⟩ := ha.str
   have χ := ι hx
   have xA : i.toNat < bs.size := χ
   have iy : bs[i.toNat]? = some x := by
    rw [getElem?_pos bs i.toNat xA]
    have : bs.data.toList[i.toNat]? = some bs[i.toNat] := by
     show bs.data.toList[i.toNat]? = some bs.data[i.toNat]
     simp
    rw [this] at hx
    exact hx
   exact ⟨_, .int .u8 x.toNat, by simp [Instr.index, asIntOf, run_underlying hd, hb, iy], .t _ _ (.int _ _), h⟩
  ·rename_i n e cs jh
   rw [jh] at hd
   rw [Γ] at h
   obtain ⟨z, hz, h⟩ := h
   rw [ap] at h
   obtain ⟨aG, h⟩ := h
   obtain ⟨i0, i1, i2, i3⟩ := o_ aG
   have bH := run_sizeOf hT hz w
   cases ha with | t _ _ ha => cases ha with | agg _ vs hl h1 hr =>
   obtain ⟨x, val, r, rt, k⟩ := zY (w := w) hT hz hl h1 hr h
   exact ⟨.t x, val, by simpa [Instr.index, asIntOf, run_underlying hd, i0, i1, bH] using r, .t _ _ rt, k⟩
  ·rename_i n e cs jh
   rw [jh] at hd
   rw [Γ] at h
   obtain ⟨z, hz, h⟩ := h
   rw [ap] at h
   obtain ⟨aG, h⟩ := h
   obtain ⟨i0, i1, i2, i3⟩ := o_ aG
   have bH := run_sizeOf hT hz w
   cases ha with | agg _ vs hl h1 hr =>
   obtain ⟨x, val, r, rt, k⟩ := zZ (w := w) hT hz hl h1 hr h
   exact ⟨x, val, by simpa [Instr.index, asIntOf, run_underlying hd, i0, i1, bH] using r, rt, k⟩
  ·exact h.elim
 ·exact h.elim
end
end Go.Proofs.YtcogcbplmkcojaaGreatDoor
namespace Go.Proofs.YtcogcbplmkcojaaGreatDoor
open Go.RowKit
set_option linter.unusedVariables false
set_option linter.unusedSimpArgs false
section
variable {P : Program} {w : World}
theorem qe {v : AV} {d mz : Nat} {K : Nat → Prop} (h : fC (some v) d mz K) {c H u} (hv : RA w c H v u) : ∃ k n, u = .int k n ∧ 0 ≤ n ∧ n ≤ (mz : Int) ∧ K n.toNat := by
 unfold fC at h
 split at h
 ·rename_i h0; cases h0
 ·rename_i k n h0
  cases h0
  rw [ap] at h
  obtain ⟨hc, h⟩ := h
  simp at hc
  exact ⟨_, _, hv.int, hc.1, hc.2, h⟩
 ·exact h.elim
inductive RO (w : World) (c : Cx) (H : AH) : Option AV → Option Value → Prop
 | no : RO w c H none none
 | yes (a v) (h : RA w c H a v) : RO w c H (some a) (some v)
theorem gF {lo hi : Option AV} {lv hv : Option Value} {c H} {n mz : Nat} {K : Nat → Nat → Prop} (QL : Bool)
 (lM : RO w c H lo lv) (th : RO w c H hi hv)
 (hn : n ≤ mz) (cap : Nat) (SO : mz ≤ cap) (h : fC hi n mz fun h => fC lo 0 h fun l => K l h) :
 ∃ l h, l ≤ h ∧ h ≤ mz ∧ (Instr.sliceBounds QL n cap lv hv none).run P w = .ok (l, h, cap) w ∧ K l h := by
 cases th with
 | no =>
  replace h : fC lo 0 n fun l => K l n := h
  cases lM with
  | no => exact ⟨0, n, Nat.zero_le _, hn, by simp [Instr.sliceBounds], h⟩
  | yes a u hu =>
   obtain ⟨k, m, rfl, h0, h1, h2⟩ := qe h hu
   exact ⟨m.toNat, n, by omega, hn, by simp [Instr.sliceBounds, run_sliceBound w k m n _ h0 (by omega)], h2⟩
 | yes b v hv =>
  obtain ⟨k', m', rfl, NH, TE, PI⟩ := qe h hv
  cases lM with
  | no => exact ⟨0, m'.toNat, Nat.zero_le _, by omega, by simp [Instr.sliceBounds, run_sliceBound w k' m' cap _ NH (by omega)], PI⟩
  | yes a u hu =>
   obtain ⟨k, m, rfl, h0, h1, h2⟩ := qe PI hu
   exact ⟨m.toNat, m'.toNat, by omega, by omega, by simp [Instr.sliceBounds, run_sliceBound w k' m' cap _ NH (by omega), run_sliceBound w k m m'.toNat _ h0 (by omega)], h2⟩
theorem rp (gen s i n len : Nat) : room gen s i n len = n ∨ (gen % 2 = 1 ∧ 1 ≤ s ∧ room gen s i n len = len - i) := by
 unfold room
 split
 ·rename_i h
  simp only [Bool.and_eq_true] at h
  exact .inr ⟨Nat.eq_of_beq_eq_true h.1, Nat.le_of_ble_eq_true h.2, rfl⟩
 ·exact .inl rfl
theorem RO.I2 {c H k v} (h : RO w c H (some (.t (.int k 0))) v) : v = some (.int k 0) := by cases h with | yes _ _ h => rw [h.int]
theorem Ee {tab : a9} (hT : bi P tab) {t : TypeId} {c H B a v} {lo hi mx : Option AV} {lv hv mv : Option Value} {K : AV → Prop} (hs : HS w c H B) (h : lm tab t H a lo hi mx K) (ha : RA w c H a v)
 (lM : RO w c H lo lv) (th : RO w c H hi hv) (qL : RO w c H mx mv) :
 ∃ x val, (Instr.sliceAt t v lv hv mv).run P w = .ok val w ∧ RA w c H x val ∧ K x := by
 unfold lm at h
 rw [Γ] at h
 obtain ⟨y, hy, h⟩ := h
 have hd := (hT t y hy).d
 split at h
 ·rename_i m
  split at h
  ·rename_i e k1 k2 k3 he
   rw [he] at hd
   rw [Γ] at h
   obtain ⟨z, hz, h⟩ := h
   obtain rfl := lM.I2
   obtain rfl := th.I2
   obtain rfl := qL.I2
   have ir := run_sizeOf hT hz w
   have run : ∀ a0 n cap, (Instr.sliceAt t (.slice a0 n cap) (some (.int k1 0)) (some (.int k2 0)) (some (.int k3 0))).run P w = .ok (.slice a0 0 0) w := by
    intro a0 n cap
    simp [Instr.sliceAt, Instr.slice, run_underlying hd, Instr.sliceBounds, Instr.sliceBound, asIntOf, ir]
   split at h
   ·cases ha with | t _ _ ha => cases ha; exact ⟨_, _, run _ _ _, .t _ _ .av, h⟩
   ·cases ha with | t _ _ ha => cases ha; exact ⟨_, _, run _ _ _, .dc _, h⟩
   ·cases ha; exact ⟨_, _, run _ _ _, .dc _, h⟩
   ·rename_i b g i n
    cases ha with | sl _ _ _ _ _ ν hb hm =>
    rw [hb] at h
    cases ν with
    | dead => exact h.elim
    | box => exact h.elim
    | iter => exact h.elim
    | arr e' s z' gen l0 =>
     simp only at h
     rw [ap] at h
     obtain ⟨hc, h⟩ := h
     obtain ⟨hlen, jM⟩ := hm.2 (Nat.eq_of_beq_eq_true hc)
     rw [ku] at h
     rcases jM with ⟨z1, l1, rfl⟩ | ⟨z1, l1, ad, rfl⟩ | ⟨aw, cb, cap, off, hg, rfl, _⟩
     ·rcases h with ⟨_, h⟩ | ⟨h0, _⟩
      ·exact ⟨_, _, run _ _ _, .t _ _ .av, h⟩
      ·simp [z1, l1] at h0
     ·rcases h with ⟨h0, _⟩ | ⟨_, h⟩
      ·simp [z1] at h0
      ·exact ⟨_, _, run _ _ _, .dc _, h⟩
     ·rcases h with ⟨h0, _⟩ | ⟨_, h⟩
      ·simp at h0; exact (aw h0).elim
      ·exact ⟨_, _, run _ _ _, .dc _, h⟩
   ·exact h.elim
  ·exact h.elim
 ·cases qL
  split at h
  ·rename_i s he
   rw [he] at hd
   obtain ⟨bs, rfl, rfl⟩ := ha.str
   obtain ⟨l, h', hl, hh, run, k⟩ := gF (P := P) false lM th (Nat.le_refl _) bs.size (Nat.le_of_eq rfl) h
   refine ⟨_, .string (bs.extract l h'), by simp [Instr.sliceAt, Instr.slice, run_underlying hd, run], .t _ _ ?_, k⟩
   have e : (bs.data.toList.drop l).take (h' - l) = (bs.extract l h').data.toList := by
    rw [ByteArray.data_extract]; simp [List.extract, Array.toList_extract]
   rw [e]; exact .str _
  ·rename_i e s l0 he
   rw [he] at hd
   rw [Γ] at h
   obtain ⟨z, hz, h⟩ := h
   rw [ap] at h
   obtain ⟨bH, h⟩ := h
   have bH := Nat.eq_of_beq_eq_true bH
   cases ha with | t _ _ ha => cases ha with | vec _ _ b off cap sp vals hM ej iI kb hc hr =>
   obtain ⟨l, h', hl, hh, run, k⟩ := gF (P := P) true lM th (Nat.le_refl _) cap ej h
   have ir := run_sizeOf hT hz w
   by_cases gz : l0 = []
   ·subst gz
    have e1 : h' = 0 := by simpa using hh
    have e2 : l = 0 := by omega
    subst e1 e2
    have fU : (Instr.sliceAt t (.slice (some ⟨b, off, sp⟩) ([] : List T).length cap) lv hv none).run P w = .ok (.slice (some ⟨b, off, sp⟩) ([] : List T).length cap) w := by
     have Ik : (Instr.sliceBounds true 0 cap lv hv none).run P w = .ok (0, 0, cap) w := run
     simp [Instr.sliceAt, Instr.slice, run_underlying hd, Ik, ir, Addr.add]
    exact ⟨_, _, fU, .t _ _ (.vec s _ b off cap sp vals hM ej iI kb hc hr), k⟩
   obtain rfl := iI gz
   have fU : (Instr.sliceAt t (.slice (some ⟨b, off, none⟩) l0.length cap) lv hv none).run P w = .ok (.slice (if cap = l then some ⟨b, off, none⟩ else some ⟨b, off + l * z.size, none⟩) (h' - l) (cap - l)) w := by
    simp [Instr.sliceAt, Instr.slice, run_underlying hd, run, ir, Addr.add_lit]
   have hlen : ((l0.drop l).take (h' - l)).length = h' - l := by simp; omega
   by_cases cm : cap = l
   ·have : h' - l = 0 := by omega
    refine ⟨_, _, fU, .t _ _ ?_, k⟩
    have e0 : (l0.drop l).take (h' - l) = [] := List.eq_nil_of_length_eq_zero (by omega)
    rw [e0, if_pos cm, this]
    exact .vec s [] b off (cap - l) none (fun _ _ => undef) (by simp) (by simp) (by simp) (by simp) (by simp) (by simp)
   ·refine ⟨_, _, fU, .t _ _ ?_, k⟩
    rw [if_neg cm]
    have := RT.vec (w := w) (M := c.M H) s ((l0.drop l).take (h' - l)) b (off + l * z.size) (cap - l) none (fun i j => vals (l + i) j) (fun aw => hM (fun e => aw (by simp [e]))) (by omega) (fun _ => rfl)
     (fun i e hi => kb _ e (bg hi).2)
     (fun i e j x hi hj => by
      have := hc _ e j x (bg hi).2 hj
      rw [← bH, show off + l * s + i * s + j = off + (l + i) * s + j by rw [Nat.add_mul]; omega]
      exact this)
     (fun i e j x hi hj => hr _ e j x (bg hi).2 hj)
    rw [hlen] at this
    exact this
  ·rename_i e he
   rw [he] at hd
   rw [Γ] at h
   obtain ⟨z, hz, h⟩ := h
   cases ha with | t _ _ ha =>
   cases ha
   obtain ⟨l, h', hl, hh, run, k⟩ := gF (P := P) (K := fun _ _ => K (.t .av)) true lM th (Nat.le_refl _) 0 (Nat.le_refl _) h
   have l0 : l = 0 := by omega
   have h0 : h' = 0 := by omega
   subst l0 h0
   exact ⟨_, _, by simp [Instr.sliceAt, Instr.slice, run_underlying hd, run, run_sizeOf hT hz w], .t _ _ .av, k⟩
  ·rename_i e s l0 he
   rw [he] at hd
   rw [Γ] at h
   obtain ⟨z, hz, h⟩ := h
   rw [ap] at h
   obtain ⟨bH, h⟩ := h
   have bH := Nat.eq_of_beq_eq_true bH
   cases ha with | t _ _ ha => cases ha with
   | kA =>
    obtain ⟨l, h', hl, hh, run, k⟩ := gF (P := P) true lM th (Nat.le_refl _) 0 (Nat.le_refl _) h
    have Tq : h' ≤ 0 := hh
    have l0 : l = 0 := by omega
    have h0 : h' = 0 := by omega
    subst l0 h0
    have run : (Instr.sliceBounds true 0 0 lv hv none).run P w = .ok (0, 0, 0) w := run
    exact ⟨_, _, by simp [Instr.sliceAt, Instr.slice, run_underlying hd, run, run_sizeOf hT hz w], .t _ _ (.kA s), k⟩
   | κ _ _ _ ha =>
   cases ha with | vec _ _ b off cap sp vals hM ej iI kb hc hr =>
   obtain ⟨l, h', hl, hh, run, k⟩ := gF (P := P) true lM th (Nat.le_refl _) cap ej h
   have ir := run_sizeOf hT hz w
   by_cases gz : l0 = []
   ·subst gz
    have e1 : h' = 0 := by simpa using hh
    have e2 : l = 0 := by omega
    subst e1 e2
    have fU : (Instr.sliceAt t (.slice (some ⟨b, off, sp⟩) ([] : List T).length cap) lv hv none).run P w = .ok (.slice (some ⟨b, off, sp⟩) ([] : List T).length cap) w := by
     have Ik : (Instr.sliceBounds true 0 cap lv hv none).run P w = .ok (0, 0, cap) w := run
     simp [Instr.sliceAt, Instr.slice, run_underlying hd, Ik, ir, Addr.add]
    exact ⟨_, _, fU, .t _ _ (.κ _ _ _ (.vec s _ b off cap sp vals hM ej iI kb hc hr)), k⟩
   obtain rfl := iI gz
   have fU : (Instr.sliceAt t (.slice (some ⟨b, off, none⟩) l0.length cap) lv hv none).run P w = .ok (.slice (if cap = l then some ⟨b, off, none⟩ else some ⟨b, off + l * z.size, none⟩) (h' - l) (cap - l)) w := by
    simp [Instr.sliceAt, Instr.slice, run_underlying hd, run, ir, Addr.add_lit]
   have hlen : ((l0.drop l).take (h' - l)).length = h' - l := by simp; omega
   by_cases cm : cap = l
   ·have : h' - l = 0 := by omega
    refine ⟨_, _, fU, .t _ _ ?_, k⟩
    have e0 : (l0.drop l).take (h' - l) = [] := List.eq_nil_of_length_eq_zero (by omega)
    rw [e0, if_pos cm, this]
    refine .κ _ _ _ ?_
    exact .vec s [] b off (cap - l) none (fun _ _ => undef) (by simp) (by simp) (by simp) (by simp) (by simp) (by simp)
   ·refine ⟨_, _, fU, .t _ _ ?_, k⟩
    rw [if_neg cm]
    have := RT.vec (w := w) (M := c.M H) s ((l0.drop l).take (h' - l)) b (off + l * z.size) (cap - l) none (fun i j => vals (l + i) j) (fun aw => hM (fun e => aw (by simp [e]))) (by omega) (fun _ => rfl)
     (fun i e hi => kb _ e (bg hi).2)
     (fun i e j x hi hj => by
      have := hc _ e j x (bg hi).2 hj
      rw [← bH, show off + l * s + i * s + j = off + (l + i) * s + j by rw [Nat.add_mul]; omega]
      exact this)
     (fun i e j x hi hj => hr _ e j x (bg hi).2 hj)
    rw [hlen] at this
    exact .κ _ _ _ this
  ·rename_i e b g i n he
   rw [he] at hd
   rw [Γ] at h
   obtain ⟨z, hz, h⟩ := h
   cases ha with | sl _ _ _ _ _ ν hb hm =>
   rw [hb] at h
   cases ν with
   | dead => exact h.elim
   | box => exact h.elim
   | iter => exact h.elim
   | arr e' s z' gen l0 =>
    simp only at h
    rw [ap] at h
    obtain ⟨hc, h⟩ := h
    simp only [Bool.and_eq_true] at hc
    have qO := Nat.eq_of_beq_eq_true hc.1
    have dd := Nat.eq_of_beq_eq_true hc.2
    have ir := run_sizeOf hT hz w
    obtain ⟨hlen, jM⟩ := hm.2 qO
    rcases jM with ⟨z1, l1, rfl⟩ | ⟨z1, l1, ad, rfl⟩ | ⟨aw, cb, cap, off, hg, rfl, rO, ej, qL, lL, lK⟩
    ·have mf : n = 0 := by rw [l1] at hlen; simp at hlen; omega
     have tg : i = 0 := by rw [l1] at hlen; simp at hlen; omega
     subst mf tg
     have dC : room gen s 0 0 l0.length = 0 := by rcases rp gen s 0 0 l0.length with h | ⟨_, _, h⟩ <;> omega
     rw [dC] at h
     obtain ⟨l, h', hl, hh, run, k⟩ := gF (P := P) true lM th (Nat.le_refl _) 0 (Nat.le_refl _) h
     have Mu : l = 0 := by omega
     have h0 : h' = 0 := by omega
     subst Mu h0
     exact ⟨_, .slice none 0 0, by simp [Instr.sliceAt, Instr.slice, run_underlying hd, run, ir], .sl _ _ _ _ _ _ hb ⟨hm.1, fun _ => ⟨by simp [l1], .inl ⟨z1, l1, rfl⟩⟩⟩, k⟩
    ·have mf : n = 0 := by rw [l1] at hlen; simp at hlen; omega
     have tg : i = 0 := by rw [l1] at hlen; simp at hlen; omega
     subst mf tg
     have dC : room gen s 0 0 l0.length = 0 := by rcases rp gen s 0 0 l0.length with h | ⟨_, _, h⟩ <;> omega
     rw [dC] at h
     obtain ⟨l, h', hl, hh, run, k⟩ := gF (P := P) true lM th (Nat.le_refl _) 0 (Nat.le_refl _) h
     have Mu : l = 0 := by omega
     have h0 : h' = 0 := by omega
     subst Mu h0
     exact ⟨_, .slice (some ad) 0 0, by simp [Instr.sliceAt, Instr.slice, run_underlying hd, run, ir], .sl _ _ _ _ _ _ hb ⟨hm.1, fun _ => ⟨by simp [l1], .inr (.inl ⟨z1, l1, ad, rfl⟩)⟩⟩, k⟩
    ·obtain ⟨tK, JG, GC, GB, NG, R7, NF⟩ := hs.arr b cb e' s z' gen l0 hb hg
     have Pa : n ≤ room gen s i n l0.length ∧ room gen s i n l0.length ≤ cap ∧ i + room gen s i n l0.length ≤ l0.length := by
      rcases rp gen s i n l0.length with h | ⟨kg, fa, h⟩
      ·omega
      ·have : i + cap = JG := by
        simp only [dI, GC] at rO
        rw [GB] at rO
        exact Nat.eq_of_mul_eq_mul_right (by omega) rO
       have := NG.2 kg
       omega
     obtain ⟨l, h', hl, hh, run, k⟩ := gF (P := P) true lM th Pa.1 cap Pa.2.1 h
     have fU : (Instr.sliceAt t (.slice (some ⟨cb, off, none⟩) n cap) lv hv none).run P w = .ok (.slice (if cap = l then some ⟨cb, off, none⟩ else some ⟨cb, off + l * z.size, none⟩) (h' - l) (cap - l)) w := by
      simp [Instr.sliceAt, Instr.slice, run_underlying hd, run, ir, Addr.add_lit]
     refine ⟨_, _, fU, .sl _ _ _ _ _ _ hb ⟨hm.1, fun _ => ⟨by omega, .inr <| .inr ⟨aw, cb, cap - l, (if cap = l then off else off + l * z.size), hg, by split <;> rfl, ?_, by omega, by omega, ?_, ?_⟩⟩⟩, k⟩
     ·rw [← rO]; congr 1; omega
     ·by_cases cm : cap = l
      ·left; omega
      ·right; rw [if_neg cm, lL.resolve_left (by omega), ← dd, Nat.add_mul]
     ·intro wm
      have : i = 0 := by omega
      have gz : l = 0 := by omega
      subst this gz
      simp [lK rfl]
  ·exact h.elim
theorem Bx {c H x v i} {K : AV → Prop} (h : mi x i K) (hx : RA w c H x v) : ∃ y val, (Instr.extract v i).run P w = .ok val w ∧ RA w c H y val ∧ K y := by
 unfold mi at h
 split at h
 ·rename_i vs
  rw [Γ] at h
  obtain ⟨a, ha, h⟩ := h
  cases hx with | ao _ us hl hr =>
  obtain ⟨u, hu⟩ := gD (a := us) (i := i) (by have := ι ha; omega)
  exact ⟨a, u, by simp [Instr.extract, hu], hr i a u ha hu, h⟩
 ·exact h.elim
theorem RT.jq {M x v} (h : RT w M x v) (h1 : x.one = true) : v.oneCell' = true ∧ v.cells = #[v] := by
 cases h <;> first | exact ⟨rfl, rfl⟩ | (simp [T.one] at h1; done) | (rename_i h; cases h; exact ⟨rfl, rfl⟩)
theorem RA.jq {c H x v} (h : RA w c H x v) (h1 : x.one = true) : v.oneCell' = true ∧ v.cells = #[v] := by
 cases h with
 | t x v hx => exact hx.jq h1
 | ptr b g i o v ν hb hm hv => obtain ⟨a, rfl⟩ := hv; exact ⟨rfl, rfl⟩
 | sl b g i n v ν hb hm hv => obtain ⟨a, n, m, rfl⟩ := hv; exact ⟨rfl, rfl⟩
 | agg => simp [AV.one] at h1
 | ao => simp [AV.one] at h1
 | bj => simp [AV.one] at h1
 | fn => exact ⟨rfl, rfl⟩
 | bY => exact ⟨rfl, rfl⟩
 | dc => exact ⟨rfl, rfl⟩
theorem RA.cells {c H x v} (h : RA w c H x v) (h1 : x.cells.all AV.one = true) : x.cells.length = v.cells.size ∧
 ∀ (j : Nat) y u, x.cells[j]? = some y → v.cells[j]? = some u → y.one = true ∧ RA w c H y u ∧ u.oneCell' = true := by
 have all : ∀ (j : Nat) y, x.cells[j]? = some y → y.one = true := fun j y hj => by
  rw [List.all_eq_true] at h1
  exact h1 y (List.mem_of_getElem? hj)
 have single : x.cells = [x] → x.cells.length = v.cells.size ∧ ∀ (j : Nat) y u, x.cells[j]? = some y → v.cells[j]? = some u → y.one = true ∧ RA w c H y u ∧ u.oneCell' = true := by
  intro hx
  have lc := all 0 x (by rw [hx]; rfl)
  obtain ⟨o1, o2⟩ := h.jq lc
  rw [hx, o2]
  refine ⟨rfl, fun j y u hj hu => ?_⟩
  cases j with
  | zero => simp at hj hu; subst hj hu; exact ⟨lc, h, o1⟩
  | succ j => simp at hj
 cases h with
 | agg cs vs hl h2 hr =>
  exact ⟨hl, fun j y u hj hu => ⟨all j y hj, hr j y u hj hu, ((hr j y u hj hu).jq (all j y hj)).1⟩⟩
 | t x v hx =>
  cases hx with
  | agg cs vs hl h2 hr =>
   refine ⟨by simp only [AV.cells, List.length_map]; exact hl, fun j y u hj hu => ?_⟩
   have hy := all j y hj
   simp only [AV.cells, List.getElem?_map, Option.map_eq_some_iff] at hj
   obtain ⟨z, hz, rfl⟩ := hj
   exact ⟨hy, .t _ _ (hr j z u hz hu), ((hr j z u hz hu).jq hy).1⟩
  | _ => exact single rfl
 | _ => exact single rfl
theorem jG : ∀ {cs : List AV} {l : List T}, ic cs = some l → cs = l.map .t
 | [], l, h => by simp [ic] at h; subst h; rfl
 | a :: r, l, h => by
  simp only [ic] at h
  split at h
  ·rename_i x l' hx td
   cases h
   have ha : a = .t x := by cases a <;> simp [xe] at hx; rw [hx]
   rw [ha, jG td]; rfl
  ·cases h
theorem HD {c H x y z u v t} {K : AV → Prop} (h : tN x y z K) (hx : RA w c H x u) (hy : RA w c H y v) (hz : RA w c H z t) (TZ : asBool u = pure true ∨ asBool u = pure false ∨ True) :
 ∃ b a val, u = .bool b ∧ val = (if b then v else t) ∧ RA w c H a val ∧ K a := by
 unfold tN at h
 split at h
 ·rename_i b
  obtain rfl := hx.bool
  split at h
  ·rename_i p q
   obtain rfl := hy.bool
   obtain rfl := hz.bool
   cases b
   ·exact ⟨_, _, _, rfl, rfl, hz, h⟩
   ·exact ⟨_, _, _, rfl, rfl, hy, h⟩
  ·rw [ku] at h
   rcases h with ⟨rfl, h⟩ | ⟨rfl, h⟩
   ·exact ⟨_, _, _, rfl, rfl, hy, h⟩
   ·exact ⟨_, _, _, rfl, rfl, hz, h⟩
 ·exact h.elim
theorem CR {tab : a9} {t : TypeId} {c H B x v} {K : AV → AH → Prop} (hs : HS w c H B) (h : xb tab t x H K) (hx : RA w c H x v) : iE P (pure v) w c H B K := by
 have aM : K x H → iE P (pure v) w c H B K := fun k => .here hs rfl hx k
 unfold xb at h
 split at h
 ·split at h
  ·split at h
   ·split at h
    ·split at h
     ·rename_i x1 y hy x2 e he x3 z hz x4 hb
      cases hx with | t _ _ hx =>
      cases hx
      obtain ⟨ev, aF⟩ := oU hs (.arr e z.size true 0 (.ts []))
      exact ⟨_, _, w, c, _, rfl, .sl H.length 0 0 0 _ (.arr e z.size true 0 (.ts [])) gp ⟨Nat.le_refl _, fun _ => ⟨by simp [Sq.length], .inl ⟨rfl, rfl, rfl⟩⟩⟩, aF, ev, Below.refl _ _, h⟩
     ·exact aM h
    ·exact aM h
   ·exact aM h
  ·exact aM h
 ·exact aM h
def qU : Value → Bool
 | .pointer none => false
 | .nilIface => false
 | .nilFunc => false
 | .func (.method _) _ _ => false
 | _ => true
theorem y7 {ρ : Operand → Value} {o : Oper} {x : Operand} (ho : o.op = .nilCheck x) (h : qU (ρ x) = true) : execOp ρ o = pure (.value (ρ x)) := by
 unfold execOp
 rw [ho]
 simp only []
 generalize ρ x = u at h ⊢
 cases u with
 | pointer a => cases a <;> first | rfl | (simp [qU] at h)
 | nilIface => simp [qU] at h
 | nilFunc => simp [qU] at h
 | func f a b => cases f <;> first | rfl | (simp [qU] at h)
 | _ => rfl
theorem zp {c H x v} {K : AV → Prop} (h : gE H x K) (hx : RA w c H x v) : qU v = true ∧ K x := by
 unfold gE at h
 split at h
 ·cases hx with | t _ _ hx =>
  cases hx
  exact ⟨rfl, h⟩
 ·cases hx with | ptr _ _ _ _ _ ν hb hm hv =>
  rw [hb] at h
  cases ν with
  | dead => exact h.elim
  | iter => exact h.elim
  | box cells => obtain ⟨cb, _, rfl⟩ := hm; exact ⟨rfl, h⟩
  | arr e s z gen l =>
   simp only at h
   rw [ap] at h
   obtain ⟨hg, h⟩ := h
   obtain ⟨cb, _, rfl⟩ := hm.2 (Nat.eq_of_beq_eq_true hg)
   exact ⟨rfl, h⟩
 ·cases hx with | t _ _ hx =>
  cases hx
  exact ⟨rfl, h⟩
 ·cases hx
  exact ⟨rfl, h⟩
 ·exact h.elim
theorem jI {α : Type} : ∀ (cs l : List α) (o : Nat), (setAt l o cs).length = l.length
 | [], l, o => by rw [gM]
 | x :: r, l, o => by rw [j3, jI r, List.length_set]
theorem ns {α : Type} : ∀ (cs l : List α) (o i : Nat), o + cs.length ≤ l.length → (setAt l o cs)[i]? = if o ≤ i ∧ i < o + cs.length then cs[i - o]? else l[i]?
 | [], l, o, i, _ => by simp [gM]; intro h1 h2; omega
 | x :: r, l, o, i, h => by
  rw [j3]
  rw [ns r (l.set o x) (o + 1) i (by simp at h ⊢; omega)]
  simp only [List.length_cons] at h ⊢
  by_cases h1 : i = o
  ·subst h1
   have : ¬ (i + 1 ≤ i ∧ i < i + 1 + r.length) := by omega
   rw [if_neg this, if_pos (by omega), List.getElem?_set_self (by omega)]
   simp
  ·by_cases h2 : o + 1 ≤ i ∧ i < o + 1 + r.length
   ·rw [if_pos h2, if_pos (by omega)]
    rw [show i - o = (i - (o + 1)) + 1 by omega, List.getElem?_cons_succ]
   ·rw [if_neg h2, if_neg (by omega), List.getElem?_set_ne (by omega)]
theorem oC {vs : List Value} {arr : Array Value} {o i : Nat} (h : o + vs.length ≤ arr.size) :
 (arr.toList.take o ++ vs ++ arr.toList.drop (o + vs.length)).toArray[i]? = if o ≤ i ∧ i < o + vs.length then vs[i - o]? else arr[i]? := by
 simp only [List.getElem?_toArray]
 by_cases h1 : i < o
 ·rw [if_neg (by omega), List.append_assoc, List.getElem?_append_left (by simp; omega), List.getElem?_take_of_lt h1]; simp
 ·by_cases h2 : i < o + vs.length
  ·rw [if_pos (by omega), List.append_assoc, List.getElem?_append_right (by simp; omega), List.getElem?_append_left (by simp; omega)]
   congr 1; simp; omega
  ·rw [if_neg (by omega), List.getElem?_append_right (by simp; omega), List.getElem?_drop]
   simp only [List.length_append, List.length_take, Array.length_toList, Array.getElem?_toList]
   congr 1; omega
theorem kO {vs : List Value} {arr : Array Value} {o : Nat} (h : o + vs.length ≤ arr.size) : (arr.toList.take o ++ vs ++ arr.toList.drop (o + vs.length)).toArray.size = arr.size := by
 simp; omega
theorem sB {tab : a9} (hT : bi P tab) {t : TypeId} {y : gq} (hy : tab t = some y) {cb o : Nat} {arr : Array Value} {e : TypeId} (hc : w.heap[cb]? = some (.cells arr e (0, 0))) {v : Value}
 (bH : v.cells.size = y.size) (bX : o + y.size ≤ arr.size) (h1 : ∀ u ∈ v.cells.toList, u.oneCell' = true) :
 (storeVar t ⟨cb, o, none⟩ v).run P w = .ok () (w.setRow cb (arr.toList.take o ++ v.cells.toList ++ arr.toList.drop (o + v.cells.toList.length)).toArray) := by
 have ka := run_storeCells_at P cb o e v.cells.toList 0 arr w hc (by simp; omega) h1
 simp only [Nat.add_zero] at ka
 simp only [storeVar, Sem.run_bind, run_sizeOf hT hy, Result.andThen_ok, bH, ne_eq, not_true_eq_false, if_false]
 exact ka
theorem jk {w : World} {B cb : Nat} (h : B ≤ cb) (arr : Array Value) : Below B w (w.setRow cb arr) :=
 ⟨rfl, rfl, rfl, by simp, fun k hk => setRow_other w cb k arr (by omega)⟩
theorem T.gT {x : T} (h : x.one = true) : x.cells = [x] := by cases x <;> first | rfl | (simp [T.one] at h)
theorem xk {x : T} {o : Nat} {cs : List T} (h : o + cs.length ≤ x.cells.length) (h1 : cs.all T.one = true) : (setCells x o cs).cells = setAt x.cells o cs := by
 cases x with
 | agg l => rfl
 | _ =>
  cases cs with
  | nil => rw [gM]; rfl
  | cons c r =>
   have hr : r = [] := by
    cases r with
    | nil => rfl
    | cons => exfalso; simp [T.cells] at h; omega
   subst hr
   have ho : o = 0 := by simp [T.cells] at h; exact h
   subst ho
   simp at h1
   simp only [setCells, T.gT h1]
   rfl
theorem xU {α β : Type} (f : α → β) : ∀ (cs l : List α) (o : Nat), (setAt l o cs).map f = setAt (l.map f) o (cs.map f)
 | [], l, o => by rw [List.map_nil, gM, gM]
 | c :: r, l, o => by rw [List.map_cons, j3, j3, xU f r, List.map_set]
def II (x : AV) : List AV → AV
 | [c] => c
 | _ => x
theorem uW {x : AV} {o : Nat} {cs : List AV} (h : o + cs.length ≤ x.cells.length) (h1 : cs.all AV.one = true) (hx : x.cells = [x]) : (II x cs).cells = setAt x.cells o cs := by
 cases cs with
 | nil => rw [gM]; rfl
 | cons c r =>
  have hl : x.cells.length = 1 := by rw [hx]; rfl
  have hr : r = [] := List.length_eq_zero_iff.1 (by simp at h; omega)
  subst hr
  have ho : o = 0 := by simp at h; omega
  subst ho
  simp only [List.all_cons, List.all_nil, Bool.and_true] at h1
  rw [hx]
  simp only [setAt, II]
  cases c with
  | t c => rw [T.dp, T.gT h1]; rfl
  | agg => simp [AV.one] at h1
  | ao => simp [AV.one] at h1
  | bj => simp [AV.one] at h1
  | own => simp [AV.one] at h1
  | _ => rfl
theorem pJ {x : AV} {o : Nat} {cs : List AV} (h : o + cs.length ≤ x.cells.length) (h1 : cs.all AV.one = true) : (jH x o cs).cells = setAt x.cells o cs := by
 have he : ∀ {x : AV}, (∀ o cs, jH x o cs = II x cs) → x.cells = [x] → o + cs.length ≤ x.cells.length → (jH x o cs).cells = setAt x.cells o cs := fun e hx h => by
  rw [e]; exact uW h h1 hx
 cases x with
 | agg l => rfl
 | t x => cases x <;> first | rfl | exact he (fun _ _ => rfl) rfl h
 | _ => exact he (fun _ _ => rfl) rfl h
theorem Ed {tab : a9} (hT : bi P tab) {t : TypeId} {c H B a x v u} {K : AH → Prop} (hs : HS w c H B) (h : zm tab t H a x K) (ha : RA w c H a v) (hx : RA w c H x u) :
 ∃ w' H', (Instr.storeAt t v u).run P w = .ok () w' ∧ HS w' c H' B ∧ Ev w c H w' c H' ∧ Below B w w' ∧ K H' := by
 unfold zm at h
 rw [Γ] at h
 obtain ⟨y, hy, h⟩ := h
 split at h
 ·rename_i b g i o
  cases ha with | ptr _ _ _ _ _ ν hb hm hv =>
  rw [hb] at h
  cases ν with
  | dead => exact h.elim
  | iter => exact h.elim
  | box cells =>
   simp only at h
   rw [ap] at h
   obtain ⟨hc, h⟩ := h
   simp only [Bool.and_eq_true] at hc
   have c1 := Nat.eq_of_beq_eq_true hc.1.1
   have c2 := Nat.le_of_ble_eq_true hc.1.2
   obtain ⟨cl, cr⟩ := hx.cells hc.2
   obtain ⟨cb, hg, rfl⟩ := hm
   obtain ⟨arr, e, h1, h2, h3⟩ := hs.box b cb cells hb hg
   have kU : ∀ z ∈ u.cells.toList, z.oneCell' = true := fun z hz => by
    obtain ⟨j, hj, rfl⟩ := List.getElem_of_mem hz
    have oe : j < u.cells.size := by simpa using hj
    exact (cr j _ _ (List.getElem?_eq_getElem (by omega)) (by simp [oe])).2.2
   have bX : o + u.cells.toList.length ≤ arr.size := by simp; omega
   have run := sB (P := P) hT hy h1 (o := o) (by omega) (by omega) kU
   obtain ⟨ev, aF⟩ := K3 hs hb hg h1 (kO bX) h2 (jI x.cells cells o) (fun j y' v' hj F7 => by
    rw [ns _ _ _ _ (by omega)] at hj
    rw [oC bX] at F7
    have hlen : x.cells.length = u.cells.toList.length := by simpa using cl
    by_cases aG : o ≤ j ∧ j < o + x.cells.length
    ·rw [if_pos aG] at hj
     rw [if_pos (by omega)] at F7
     exact cr _ _ _ hj (by simpa using F7)
    ·rw [if_neg aG] at hj
     rw [if_neg (by omega)] at F7
     exact h3 j y' v' hj F7)
   exact ⟨_, _, by simpa [Instr.storeAt, Instr.sureAddr] using run, aF, ev, jk (hs.base b cb hg).1 _, h⟩
  | arr e s z gen l =>
   have row : ∀ x0 x' l', g.beq gen = true → l.get i = some x0 → l'.length = l.length → (∀ k, l'.get k = if k = i then some x' else l.get k) → x'.cells = setAt x0.cells o x.cells →
    x.cells.length = y.size → o + y.size ≤ x0.cells.length → x.cells.all AV.one = true → K (H.set b (.arr e s z gen l')) →
    ∃ w' H', (Instr.storeAt t v u).run P w = .ok () w' ∧ HS w' c H' B ∧ Ev w c H w' c H' ∧ Below B w w' ∧ K H' := by
    intro x0 x' l' fq eD wk iy wq c1 c2 cT h
    obtain ⟨cl, cr⟩ := hx.cells cT
    obtain ⟨cb, hg, rfl⟩ := hm.2 (Nat.eq_of_beq_eq_true fq)
    obtain ⟨arr, cap, h1, h2, h3, h4, h5⟩ := hs.arr b cb e s z gen l hb hg
    obtain ⟨h6, h7⟩ := h5 i x0 eD
    have kU : ∀ z ∈ u.cells.toList, z.oneCell' = true := fun z hz => by
     obtain ⟨j, hj, rfl⟩ := List.getElem_of_mem hz
     have oe : j < u.cells.size := by simpa using hj
     exact (cr j _ _ (List.getElem?_eq_getElem (by omega)) (by simp [oe])).2.2
    have wm := Sq.tq eD
    have SS : i * s + s ≤ arr.size := by
     rw [h2, ← Nat.succ_mul]; exact Nat.mul_le_mul_right _ (by omega)
    have bX : i * s + o + u.cells.toList.length ≤ arr.size := by simp; omega
    have run := sB (P := P) hT hy h1 (o := i * s + o) (by omega) (by omega) kU
    have Tc : u.cells.toList.length = x.cells.length := by simp; omega
    obtain ⟨ev, aF⟩ := qz hs hb hg h1 (kO bX) h2 (l' := l') (g' := gen) (by rw [wk]; exact h3) h4 (Nat.le_refl _) (by rw [wk]; exact Nat.le_refl _) (fun _ => wk) (fun k z hk => by
     rw [iy] at hk
     by_cases Gh : k = i
     ·subst Gh
      rw [if_pos rfl] at hk
      cases hk
      rw [wq]
      refine ⟨by rw [jI]; exact h6, fun j y' hj => ?_⟩
      have Gk : j < s := by have := ι hj; rw [jI] at this; omega
      rw [ns _ _ _ _ (by omega)] at hj
      rw [oC bX]
      by_cases aG : o ≤ j ∧ j < o + x.cells.length
      ·rw [if_pos aG] at hj
       rw [if_pos (by omega)]
       obtain ⟨q, hq⟩ := gD (a := u.cells) (i := j - o) (by omega)
       refine ⟨q, by rw [show k * s + j - (k * s + o) = j - o by omega]; simpa using hq, ?_⟩
       exact cr (j - o) y' q hj hq
      ·rw [if_neg aG] at hj
       rw [if_neg (by omega)]
       exact h7 j y' hj
     ·rw [if_neg Gh] at hk
      obtain ⟨q1, q2⟩ := h5 k z hk
      refine ⟨q1, fun j y' hj => ?_⟩
      have Gk : j < s := by have := ι hj; omega
      rw [oC bX, if_neg]
      ·exact q2 j y' hj
      ·intro hh
       have : u.cells.toList.length ≤ s - o := by omega
       rcases Nat.lt_or_ge k i with χ | eE
       ·have : k * s + s ≤ i * s := by rw [← Nat.succ_mul]; exact Nat.mul_le_mul_right _ χ
        omega
       ·have : i * s + s ≤ k * s := by rw [← Nat.succ_mul]; exact Nat.mul_le_mul_right _ (by omega)
        omega)
    exact ⟨_, _, by simpa [Instr.storeAt, Instr.sureAddr] using run, aF, ev, jk (hs.base b cb hg).1 _, h⟩
   have zK : ∀ {α : Type} {l : List α} {x0 x' : α}, l[i]? = some x0 → ∀ k, (l.set i x')[k]? = if k = i then some x' else l[k]? := by
    intro α l x0 x' eD k
    by_cases hk : k = i
    ·subst hk; rw [if_pos rfl, List.getElem?_set_self (ι eD)]
    ·rw [if_neg hk, List.getElem?_set_ne (Ne.symm hk)]
   cases l with
   | ts l =>
    simp only at h
    rw [ap] at h
    obtain ⟨fq, h⟩ := h
    rw [Γ] at h
    obtain ⟨x0, eD, h⟩ := h
    split at h
    ·rename_i cs iK
     rw [ap] at h
     obtain ⟨hc, h⟩ := h
     simp only [Bool.and_eq_true] at hc
     have c1 := Nat.eq_of_beq_eq_true hc.1.1
     have c2 := Nat.le_of_ble_eq_true hc.1.2
     have c3 := hc.2
     have MH := jG iK
     refine row (.t x0) (.t (setCells x0 o cs)) (.ts (l.set i (setCells x0 o cs))) fq (by simp [Sq.get, eD]) (by simp [Sq.length]) (fun k => ?_) ?_ (by rw [MH]; simpa using c1) (by rw [T.dp]; simpa using c2) (by rw [MH, List.all_map]; exact c3) h
     ·simp only [Sq.get]
      rw [zK eD k]
      split <;> rfl
     ·rw [T.dp, T.dp, xk (by omega) c3, MH, xU]
    ·rw [ap] at h
     obtain ⟨hc, h⟩ := h
     simp only [Bool.and_eq_true] at hc
     have c1 := Nat.eq_of_beq_eq_true hc.1.1
     have c2 := Nat.le_of_ble_eq_true hc.1.2
     have P1 : (l.map AV.t)[i]? = some (.t x0) := by simp [eD]
     refine row (.t x0) _ (.vs ((l.map .t).set i (jH (.t x0) o x.cells))) fq (by simp [Sq.get, eD]) (by simp [Sq.length]) (fun k => ?_) (pJ (by rw [T.dp]; simp; omega) hc.2) c1 (by rw [T.dp]; simpa using c2) hc.2 h
     ·simp only [Sq.get]
      rw [zK P1 k, List.getElem?_map]
   | vs l =>
    simp only at h
    rw [ap] at h
    obtain ⟨fq, h⟩ := h
    rw [Γ] at h
    obtain ⟨x0, eD, h⟩ := h
    rw [ap] at h
    obtain ⟨hc, h⟩ := h
    simp only [Bool.and_eq_true] at hc
    have c1 := Nat.eq_of_beq_eq_true hc.1.1
    have c2 := Nat.le_of_ble_eq_true hc.1.2
    exact row x0 _ (.vs (l.set i (jH x0 o x.cells))) fq eD (by simp [Sq.length]) (fun k => by simp only [Sq.get]; exact zK eD k) (pJ (by omega) hc.2) c1 c2 hc.2 h
 ·exact h.elim
end
end Go.Proofs.YtcogcbplmkcojaaGreatDoor
namespace Go.Proofs.YtcogcbplmkcojaaGreatDoor
open Go.RowKit
set_option linter.unusedVariables false
set_option linter.unusedSimpArgs false
section
variable {P : Program} {w : World}
theorem B8 {M : Nat → Prop} {v : Value} {x : T} (h : Aa v = some x) : RT w M x v := by
 unfold Aa at h
 split at h <;> first | (cases h; constructor) | cases h
theorem mw {M : Nat → Prop} : ∀ {vs : List Value} {l : List T}, my vs = some l → l.length = vs.length ∧ ∀ (i : Nat) x v, l[i]? = some x → vs[i]? = some v → RT w M x v
 | [], l, h => by simp [my] at h; subst h; simp
 | v :: r, l, h => by
  simp only [my] at h
  split at h
  ·rename_i x l' hx hl
   cases h
   obtain ⟨h1, h2⟩ := mw (M := M) hl
   refine ⟨by simp [h1], fun i y u hi hu => ?_⟩
   cases i with
   | zero => simp at hi hu; subst hi hu; exact B8 hx
   | succ i => simp at hi hu; exact h2 i y u hi hu
  ·cases h
theorem IK {c H} (v : Value) : RA w c H (Dp v) v := by
 unfold Dp
 split
 ·rename_i x hx
  cases v with
  | agg cs =>
   simp only [O1, Option.map_eq_some_iff] at hx
   obtain ⟨l, hl, rfl⟩ := hx
   obtain ⟨h1, h2⟩ := mw (w := w) (M := c.M H) hl
   refine .t _ _ (.agg l cs (by simpa using h1) (fun i y hi => ?_) (fun i y u hi hu => h2 i y u hi (by simpa using hu)))
   have χ := ι hi
   have e : cs.toList[i]? = some (cs.toList[i]'(by omega)) := List.getElem?_eq_getElem _
   have kU : ∀ {vs : List Value} {l : List T}, my vs = some l → ∀ (i : Nat) y, l[i]? = some y → y.one = true := by
    intro vs
    induction vs with
    | nil => intro l h; simp [my] at h; subst h; simp
    | cons v r ih =>
     intro l h
     simp only [my] at h
     split at h
     ·rename_i x l' aP td
      cases h
      intro i y hi
      cases i with
      | zero =>
       simp at hi; subst hi
       unfold Aa at aP
       split at aP <;> first | (cases aP; rfl) | cases aP
      | succ i => simp at hi; exact ih td i y hi
     ·cases h
   exact kU hl i y hi
  | _ => exact .t _ _ (B8 hx)
 ·exact .bj v
theorem iT {tab : a9} (hT : bi P tab) {t : TypeId} {y : gq} (hy : tab t = some y) {zs : List T} (hz : y.zero = some zs) :
 ∃ z : Value, (zeroValue t).run P w = .ok z w ∧ my z.cells.toList = some zs ∧ ∃ i, P.info? t = some i ∧ i.zero = some z ∧ i.size = y.size ∧ i.bytes = y.bytes := by
 obtain ⟨i, hi, hs, hb, ir⟩ := (hT t y hy).DA
 obtain ⟨z, oa, ME⟩ := ir zs hz
 exact ⟨z, by simp [zeroValue, typeInfo, hi, oa], ME, i, hi, oa, hs, hb⟩
theorem yi {c H B} (hs : HS w c H B) (e : TypeId) {x : AV} {v : Value} (hx : RA w c H x v) (h1 : x.cells.all AV.one = true) :
 RA (w.alloc (.cells v.cells e)) (c.new H.length w.heap.size) (H ++ [.box x.cells]) (.ptr H.length 0 0 0) (.pointer (some ⟨w.heap.size, 0, none⟩)) ∧
 HS (w.alloc (.cells v.cells e)) (c.new H.length w.heap.size) (H ++ [.box x.cells]) B ∧
 Ev w c H (w.alloc (.cells v.cells e)) (c.new H.length w.heap.size) (H ++ [.box x.cells]) ∧ Below B w (w.alloc (.cells v.cells e)) := by
 obtain ⟨cl, cr⟩ := hx.cells h1
 exact ⟨.ptr _ _ _ _ _ _ (kp (w := w) (c := c) _).1 ⟨_, (kp (.box x.cells)).2, rfl⟩, Lg hs e x.cells v.cells cl.symm cr, lR hs _ _, iM hs.hB _⟩
theorem KQ {c H B x v} {K : AV → AH → Prop} (hs : HS w c H B) (e : TypeId) (hx : RA w c H x v) (h1 : x.cells.all AV.one = true) (k : K (.ptr H.length 0 0 0) (H ++ [.box x.cells])) :
 iE P (Instr.box e v) w c H B K := by
 obtain ⟨r, h, ev, b⟩ := yi hs e hx h1
 exact ⟨_, _, _, _, _, by simp [Instr.box, newVar, newRow], r, h, ev, b, k⟩
theorem nh {c H} {z : Value} {zs : List T} (h : my z.cells.toList = some zs) (h1 : zs.all T.one = true) : RA w c H (.agg (zs.map .t)) (.agg z.cells) := by
 obtain ⟨k1, k2⟩ := mw (w := w) (M := c.M H) h
 refine .agg _ _ (by simpa using k1) (fun i x hi => ?_) (fun i x v hi hv => ?_)
 ·simp only [List.getElem?_map, Option.map_eq_some_iff] at hi
  obtain ⟨y, hy, rfl⟩ := hi
  rw [List.all_eq_true] at h1
  exact h1 y (List.mem_of_getElem? hy)
 ·simp only [List.getElem?_map, Option.map_eq_some_iff] at hi
  obtain ⟨y, hy, rfl⟩ := hi
  exact .t _ _ (k2 i y v hy (by simpa using hv))
theorem Eo {tab : a9} (hT : bi P tab) {t : TypeId} {y : gq} (hy : tab t = some y) {zs : List T} (hz : y.zero = some zs) (h1 : zs.all T.one = true) {c H B} {K : AV → AH → Prop} (hs : HS w c H B)
 (k : K (.ptr H.length 0 0 0) (H ++ [.box (zs.map .t)])) (vR : Value) : iE P (Instr.alloc t true vR) w c H B K := by
 obtain ⟨z, r, hz, _⟩ := iT (w := w) hT hy hz
 have ha := nh (w := w) (c := c) (H := H) hz h1
 have cT : (AV.agg (zs.map .t)).cells.all AV.one = true := by simp only [AV.cells, List.all_map]; exact h1
 obtain ⟨r1, h, ev, b⟩ := yi hs t ha cT
 refine ⟨_, _, _, _, _, ?_, r1, h, ev, b, k⟩
 simp [Instr.alloc, r, newVar, newRow]
 rfl
theorem yS {c : Cx} {H : AH} {z : Value} {zs : List T} {n : Nat} (hz : my z.cells.toList = some zs) (h1 : zs.all T.one = true) (hl : zs.length = n) : z.cells.size = n ∧ dh w c H n (.ts [.agg zs]) z.cells := by
 have ha := nh (w := w) (c := c) (H := H) hz h1
 have cT : (AV.agg (zs.map .t)).cells.all AV.one = true := by simp only [AV.cells, List.all_map]; exact h1
 obtain ⟨cl, cr⟩ := ha.cells cT
 have bH : z.cells.size = n := by
  have : (Value.agg z.cells).cells.size = z.cells.size := rfl
  rw [← this, ← cl]
  simp only [AV.cells, List.length_map, hl]
 refine ⟨bH, ?_⟩
 intro i x hi
 match i with
 | 0 =>
  obtain rfl : AV.t (.agg zs) = x := by simpa [Sq.get] using hi
  refine ⟨by simp [AV.cells, hl], fun j u hj => ?_⟩
  have oe : (AV.agg (zs.map .t)).cells[j]? = some u := hj
  have fy : j < z.cells.size := by
   have h2 := (List.getElem?_eq_some_iff.1 oe).1
   simp only [AV.cells, List.length_map, hl] at h2
   omega
  have hv : z.cells[j]? = some z.cells[j] := Array.getElem?_eq_getElem fy
  have := cr j u _ oe hv
  exact ⟨_, by rw [Nat.zero_mul, Nat.zero_add]; exact hv, this⟩
 | i + 1 => simp [Sq.get] at hi
theorem zw {tab : a9} (hT : bi P tab) {t : TypeId} {y : gq} (hy : tab t = some y) {zs : List T} (hz : y.zero = some zs) (h1 : zs.all T.one = true) (hl : zs.length = y.size) {c H B} {K : AV → AH → Prop} (hs : HS w c H B)
 (k : K (.ptr H.length 0 0 0) (H ++ [.arr t y.size false 0 (.ts [.agg zs])])) (vR : Value) : iE P (Instr.alloc t true vR) w c H B K := by
 obtain ⟨z, r, hz, _⟩ := iT (w := w) hT hy hz
 obtain ⟨bH, hR⟩ := yS (w := w) (c := c) (H := H) hz h1 hl
 refine ⟨_, _, _, _, _, ?_, .ptr _ _ _ _ _ _ (kp (w := w) (c := c) (.arr t y.size false 0 (.ts [.agg zs]))).1 ⟨Nat.le_refl _, fun _ => ⟨_, (kp (.arr t y.size false 0 (.ts [.agg zs]))).2, by rw [Nat.zero_mul]⟩⟩,
  tV hs t y.size false 0 (.ts [.agg zs]) z.cells 1 (by omega) ⟨Nat.le_refl _, fun h => by cases h⟩ (by decide) hR, lR hs _ _, iM hs.hB _, k⟩
 simp [Instr.alloc, r, newVar, newRow]
theorem Eg {tab : a9} (hT : bi P tab) {t : TypeId} {c H B x v} {K : AV → AH → Prop} (hs : HS w c H B) (h : zn tab t x H K) (hx : RA w c H x v) : iE P (Instr.range t v) w c H B K := by
 unfold zn at h
 rw [Γ] at h
 obtain ⟨y, hy, h⟩ := h
 have hd := (hT t y hy).d
 split at h
 ·rename_i s he
  rw [he] at hd
  cases hx with | t _ _ hx =>
  cases hx with | str bs =>
  exact ⟨_, _, w.alloc (.stringIter bs 0), _, _, run_range_string w t bs hd, .ptr _ _ _ _ _ _ (kp (w := w) (c := c) (.iter bs.data.toList 0)).1 ⟨_, (kp (.iter bs.data.toList 0)).2, rfl⟩, IN hs bs 0, lR hs _ _, iM hs.hB _, h⟩
 ·exact h.elim
theorem HF {c H B x v st} {K : AV → AH → Prop} (hs : HS w c H B) (h : CO x st H K) (hx : RA w c H x v) (ty : TypeId) : iE P (Instr.next v st ty) w c H B K := by
 unfold CO at h
 split at h
 ·rename_i b g i o
  cases hx with | ptr _ _ _ _ _ ν hb hm hv =>
  rw [hb] at h
  cases ν with
  | dead => exact h.elim
  | box => exact h.elim
  | arr => exact h.elim
  | iter s p =>
   simp only at h
   rw [ap] at h
   obtain ⟨hc, h⟩ := h
   simp only [Bool.and_eq_true] at hc
   obtain ⟨rfl, ho⟩ := hc
   have ho := Nat.eq_of_beq_eq_true ho
   subst ho
   obtain ⟨cb, hg, rfl⟩ := hm
   obtain ⟨bs, h1, rfl⟩ := hs.iter b cb s p hb hg
   split at h
   ·rename_i ch pZ
    rw [ap] at h
    obtain ⟨ha, h⟩ := h
    have ha : ch.toNat < 128 := by simpa [Nat.blt_eq] using ha
    have hp : p < bs.size := ι pZ
    have Nr : bs[p]'hp = ch := by
     rw [List.getElem?_eq_getElem hp] at pZ
     exact Option.some.inj pZ
    obtain ⟨ev, aF, CJ⟩ := Ic hs hb hg h1 rfl (p + 1)
    refine ⟨_, .tuple #[.bool true, .int .i64 p, .int .i32 ch.toNat], _, _, _, ?_, ?_, aF, ev, CJ, h⟩
    ·simp only [Instr.next, getObj, setObj, Sem.run_bind, Sem.run, h1, Result.andThen, hp, if_true, decode_ascii bs p hp (by rw [Nr]; exact ha), Nr]
     simp [goInt, Sem.run, h1]
    ·refine .ao _ _ rfl (fun i x v hi hv => ?_)
     match i, hi, hv with
     | 0, hi, hv => simp at hi hv; subst hi hv; exact .t _ _ (.bool _)
     | 1, hi, hv => simp at hi hv; subst hi hv; exact .t _ _ (.int _ _)
     | 2, hi, hv => simp at hi hv; subst hi hv; exact .t _ _ (.int _ _)
     | i + 3, hi, hv => simp at hi
   ·rename_i pZ
    have hp : ¬ p < bs.size := fun hp => by
     rw [List.getElem?_eq_getElem hp] at pZ
     cases pZ
    refine ⟨_, .tuple #[.bool false], w, c, H, ?_, ?_, hs, Ev.refl _ _ _, Below.refl _ _, h⟩
    ·simp [Instr.next, getObj, Sem.run, h1, hp]
    ·refine .ao _ _ rfl (fun i x v hi hv => ?_)
     match i, hi, hv with
     | 0, hi, hv => simp at hi hv; subst hi hv; exact .t _ _ (.bool _)
     | i + 1, hi, hv => simp at hi
 ·exact h.elim
theorem qS (o : Nat) : ∀ (l : List (Value × Nat)) (cs : Array Value), (l.foldl (fun cs p => cs.setIfInBounds (o + p.2) p.1) cs).size = cs.size
 | [], cs => rfl
 | p :: r, cs => by simp [qS o r]
theorem sn (o : Nat) : ∀ (vs : List Value) (n : Nat) (cs : Array Value) (i : Nat), o + n + vs.length ≤ cs.size →
 ((vs.zipIdx n).foldl (fun cs (p : Value × Nat) => cs.setIfInBounds (o + p.2) p.1) cs)[i]? = if o + n ≤ i ∧ i < o + n + vs.length then vs[i - (o + n)]? else cs[i]?
 | [], n, cs, i, _ => by simp; intro h1 h2; omega
 | v :: r, n, cs, i, h => by
  simp only [List.zipIdx_cons, List.foldl_cons, List.length_cons] at h ⊢
  rw [sn o r (n + 1) _ i (by simp; omega)]
  by_cases h1 : i = o + n
  ·subst h1
   rw [if_neg (by omega), if_pos (by omega), Array.getElem?_setIfInBounds_self_of_lt (by omega)]
   simp
  ·by_cases h2 : o + (n + 1) ≤ i ∧ i < o + (n + 1) + r.length
   ·rw [if_pos h2, if_pos (by omega), show i - (o + n) = (i - (o + (n + 1))) + 1 by omega, List.getElem?_cons_succ]
   ·rw [if_neg h2, if_neg (by omega), Array.getElem?_setIfInBounds_ne (by omega)]
def rv (cells : Array Value) (off : Nat) (v : Value) : Array Value := v.cells.zipIdx.foldl (fun cs (c, j) => cs.setIfInBounds (off + j) c) cells
theorem sL (cells : Array Value) (off : Nat) (v : Value) : (rv cells off v).size = cells.size := by
 unfold rv
 rw [← Array.foldl_toList]
 exact qS off _ cells
theorem u5 (cells : Array Value) (off : Nat) (v : Value) (h : off + v.cells.size ≤ cells.size) (i : Nat) :
 (rv cells off v)[i]? = if off ≤ i ∧ i < off + v.cells.size then v.cells[i - off]? else cells[i]? := by
 unfold rv
 rw [← Array.foldl_toList]
 have := sn off v.cells.toList 0 cells i (by simpa using h)
 simpa using this
theorem yI {place : Nat → Option (Nat × Nat)} {cells : Array Value} {k : Nat} {v : Value} {r : List (Nat × Value)} {off size : Nat} (hp : place k = some (off, size)) (hs : v.cells.size = size) (hf : off + v.cells.size ≤ cells.size) :
 Instr.fill place cells ((k, v) :: r) = Instr.fill place (rv cells off v) r := by
 have h2 : ¬ off + v.cells.size > cells.size := by omega
 simp [Instr.fill, hp, hs, rv]
 intro h; omega
theorem RA.put {c H} {cells : List AV} {arr : Array Value} (ha : RA w c H (.agg cells) (.agg arr)) {x : AV} {v : Value} (hx : RA w c H x v) (h1 : x.cells.all AV.one = true) {off : Nat} (hf : off + x.cells.length ≤ cells.length) :
 RA w c H (.agg (setAt cells off x.cells)) (.agg (rv arr off v)) := by
 obtain ⟨cl, cr⟩ := hx.cells h1
 cases ha with
 | agg _ _ hl h2 hr =>
  refine .agg _ _ (by rw [jI, sL]; exact hl) (fun i y hi => ?_) (fun i y u hi hu => ?_)
  ·rw [ns _ _ _ _ hf] at hi
   split at hi
   ·obtain ⟨u, hu⟩ := gD (a := v.cells) (i := i - off) (by have := ι hi; omega)
    exact (cr _ y u hi hu).1
   ·exact h2 i y hi
  ·rw [ns _ _ _ _ hf] at hi
   rw [u5 _ _ _ (by omega)] at hu
   by_cases aG : off ≤ i ∧ i < off + x.cells.length
   ·rw [if_pos aG] at hi
    rw [if_pos (by omega)] at hu
    exact (cr _ y u hi hu).2.1
   ·rw [if_neg aG] at hi
    rw [if_neg (by omega)] at hu
    exact hr i y u hi hu
inductive jV (w : World) (c : Cx) (H : AH) : List (Nat × AV) → List (Nat × Value) → Prop
 | nil : jV w c H [] []
 | cons (k x v r s) (h : RA w c H x v) (t : jV w c H r s) : jV w c H ((k, x) :: r) ((k, v) :: s)
theorem zu {c H} {place : Nat → Option (Nat × Nat)} {parts : List (Nat × AV)} {vs : List (Nat × Value)} (hp : jV w c H parts vs) : ∀ {cells : List AV} {arr : Array Value} {K : AV → Prop},
 RA w c H (.agg cells) (.agg arr) → tO place cells parts K → ∃ x r, Instr.fill place arr vs = some r ∧ RA w c H x (.agg r) ∧ K x := by
 induction hp with
 | nil => intro cells arr K ha h; exact ⟨_, arr, rfl, ha, h⟩
 | cons k x v r s hx ht ih =>
  intro cells arr K ha h
  simp only [tO] at h
  rw [Γ] at h
  obtain ⟨p, MT, h⟩ := h
  rw [ap] at h
  obtain ⟨hc, h⟩ := h
  simp only [Bool.and_eq_true] at hc
  have c1 := Nat.eq_of_beq_eq_true hc.1.1
  have c2 := Nat.le_of_ble_eq_true hc.1.2
  obtain ⟨cl, cr⟩ := hx.cells hc.2
  have og : cells.length = arr.size := by cases ha with | agg _ _ hl _ _ => exact hl
  obtain ⟨y, q, h1, h2, h3⟩ := ih (ha.put hx hc.2 c2) h
  exact ⟨y, q, by rw [yI (off := p.1) (size := p.2) MT (by omega) (by omega)]; exact h1, h2, h3⟩
theorem xn {tab : a9} (hT : bi P tab) (fs : List Field) (h : ∀ f ∈ fs, (tab f.type).isSome = true) :
 (fs.mapM fun f => (do pure (f.offset, ← sizeOf f.type) : Sem (Nat × Nat))).run P w = .ok (fs.map fun f => (f.offset, ((tab f.type).map (·.size)).getD 0)) w := by
 induction fs with
 | nil => simp
 | cons f r ih =>
  have QN := ih (fun g hg => h g (by simp [hg]))
  obtain ⟨y, hy⟩ := Option.isSome_iff_exists.1 (h f (by simp))
  simp only [List.mapM_cons, Sem.run_bind, run_sizeOf hT hy, Result.andThen_ok, Sem.run_pure, QN, List.map_cons, hy]
  rfl
theorem En {tab : a9} (hT : bi P tab) {t : TypeId} {c H} {parts : List (Nat × AV)} {vs : Array (Nat × Value)} {K : AV → Prop} (hp : jV w c H parts vs.toList) (h : qx tab t parts K) :
 ∃ x val, (Instr.build t vs).run P w = .ok val w ∧ RA w c H x val ∧ K x := by
 unfold qx at h
 rw [Γ] at h
 obtain ⟨y, hy, h⟩ := h
 rw [Γ] at h
 obtain ⟨zs, hz, h⟩ := h
 rw [ap] at h
 obtain ⟨h1, h⟩ := h
 obtain ⟨z, r, hz, _⟩ := iT (w := w) hT hy hz
 have ha := nh (w := w) (c := c) (H := H) hz h1
 have hd := (hT t y hy).d
 split at h
 ·rename_i fs Gp
  rw [Gp] at hd
  rw [ap] at h
  obtain ⟨cT, h⟩ := h
  rw [List.all_eq_true] at cT
  have hm := xn (w := w) hT fs.toList cT
  have MS : (fun k => fs[k]?.bind fun f => (tab f.type).map fun z => (f.offset, z.size)) = fun (k : Nat) => (fs.toList.map fun f => (f.offset, ((tab f.type).map (·.size)).getD 0)).toArray[k]? := by
   funext k
   simp only [List.getElem?_toArray, List.getElem?_map, Array.getElem?_toList]
   cases hk : fs[k]? with
   | none => rfl
   | some f =>
    obtain ⟨q, hq⟩ := Option.isSome_iff_exists.1 (cT f (by rw [Array.mem_toList_iff]; exact Array.mem_of_getElem? hk))
    simp [hq]
  obtain ⟨x, q, e1, e2, k⟩ := zu hp ha h
  refine ⟨x, .agg q, ?_, e2, k⟩
  rw [MS] at e1
  have Ge : (fs.mapM fun f => (do pure (f.offset, ← sizeOf f.type) : Sem (Nat × Nat))).run P w = .ok (fs.toList.map fun f => (f.offset, ((tab f.type).map (·.size)).getD 0)).toArray w := by
   rw [Array.mapM_eq_mapM_toList]
   simp only [Sem.run_map, hm, Result.andThen_ok]
  simp only [Instr.build, Sem.run_bind, r, Result.andThen_ok, run_underlying hd, Ge]
  rw [e1]
  rfl
 ·rename_i n e RF
  rw [RF] at hd
  rw [Γ] at h
  obtain ⟨q, hq, h⟩ := h
  obtain ⟨x, u, e1, e2, k⟩ := zu hp ha h
  refine ⟨x, .agg u, ?_, e2, k⟩
  simp only [Instr.build, Sem.run_bind, r, Result.andThen_ok, run_underlying hd, run_sizeOf hT hq]
  rw [e1]
  rfl
 ·exact h.elim
end
end Go.Proofs.YtcogcbplmkcojaaGreatDoor
namespace Go.Proofs.YtcogcbplmkcojaaGreatDoor
open Go.RowKit
set_option linter.unusedVariables false
set_option linter.unusedSimpArgs false
section
variable {P : Program} {w : World}
theorem lD {s : Nat} {cs : List T} (hl : cs.length = s) (h1 : cs.all T.one = true) (hs : 1 ≤ s) : (dV s cs).cells = cs := by
 unfold dV
 split
 ·rename_i c
  simp at h1
  exact T.gT h1
 ·rfl
theorem ri {w : World} {M : Nat → Prop} {s : Nat} {l : List T} {v : Value} (h : RT w M (.κ s l) v) : (l = [] ∧ v = .slice none 0 0) ∨ RT w M (.vec s l) v := by
 cases h with
 | kA => exact .inl ⟨rfl, rfl⟩
 | κ _ _ _ h => exact .inr h
theorem RA.wK {c H x v} (h : RA w c H x v) (hj : x ≠ .bj) (ht : ∀ l, x ≠ .ao l) : x.cells.length = v.cells.toList.length ∧
 ∀ (i : Nat) y u, x.cells[i]? = some y → v.cells.toList[i]? = some u → RA w c H y u := by
 have single : ∀ {x : AV} {v : Value}, RA w c H x v → x.cells = [x] → v.cells = #[v] → x.cells.length = v.cells.toList.length ∧
  ∀ (i : Nat) y u, x.cells[i]? = some y → v.cells.toList[i]? = some u → RA w c H y u := by
  intro x v h hx hv
  rw [hx, hv]
  refine ⟨rfl, fun i y u hi hu => ?_⟩
  cases i with
  | zero => simp at hi hu; subst hi hu; exact h
  | succ i => simp at hi
 cases h with
 | agg xs us hl _ nB => exact ⟨hl, fun i y u hi hu => nB i y u hi (by rw [← Array.getElem?_toList]; exact hu)⟩
 | t x v hx =>
  cases hx with
  | agg xs us hl _ nB =>
   refine ⟨by simp only [AV.cells, List.length_map]; exact hl, fun i y u hi hu => ?_⟩
   simp only [AV.cells, List.getElem?_map, Option.map_eq_some_iff] at hi
   obtain ⟨z, hz, rfl⟩ := hi
   exact .t _ _ (nB i z u hz (by rw [← Array.getElem?_toList]; exact hu))
  | bool => exact single (.t _ _ (.bool _)) rfl rfl
  | int => exact single (.t _ _ (.int _ _)) rfl rfl
  | str => exact single (.t _ _ (.str _)) rfl rfl
  | ju => exact single (.t _ _ .ju) rfl rfl
  | av => exact single (.t _ _ .av) rfl rfl
  | kQ => exact single (.t _ _ .kQ) rfl rfl
  | kP => exact single (.t _ _ .kP) rfl rfl
  | cO cells b off vals h1 h2 h3 => exact single (.t _ _ (.cO cells b off vals h1 h2 h3)) rfl rfl
  | vec s l b off cap sp vals h1 h2 h6 h3 h4 h5 => exact single (.t _ _ (.vec s l b off cap sp vals h1 h2 h6 h3 h4 h5)) rfl rfl
  | fn f a b x y h1 h2 h3 h4 => exact single (.t _ _ (.fn f a b x y h1 h2 h3 h4)) rfl rfl
  | bY t x v h1 => exact single (.t _ _ (.bY t x v h1)) rfl rfl
  | kA s => exact single (.t _ _ (.kA s)) rfl rfl
  | κ s l v h =>
   have h' := RT.κ s l v h
   cases h with | vec => exact single (.t _ _ h') rfl rfl
 | bj v => exact (hj rfl).elim
 | ao cs => exact (ht cs rfl).elim
 | fn f a b x y h1 h2 h3 h4 => exact single (.fn f a b x y h1 h2 h3 h4) rfl rfl
 | bY t x v h1 => exact single (.bY t x v h1) rfl rfl
 | ptr b g i o v ν hb hm hv => obtain ⟨a, rfl⟩ := hv; exact single (.ptr b g i o _ ν hb hm) rfl rfl
 | sl b g i m v ν hb hm hv => obtain ⟨a, p, q, rfl⟩ := hv; exact single (.sl b g i m _ ν hb hm) rfl rfl
 | dc ad => exact single (.dc ad) rfl rfl
theorem jV.ev {c H c' H' w'} (ev : Ev w c H w' c' H') {p : List (Nat × AV)} {v : List (Nat × Value)} (h : jV w c H p v) : jV w' c' H' p v := by
 induction h with
 | nil => exact .nil
 | cons k x v r s h t ih => exact .cons k x v r s (h.ev ev) ih
theorem AV.gT {x : AV} (h : x.one = true) : x.cells = [x] := by
 cases x with
 | t x => rw [T.dp, T.gT h]; rfl
 | agg => simp [AV.one] at h
 | ao => simp [AV.one] at h
 | bj => simp [AV.one] at h
 | own => simp [AV.one] at h
 | _ => rfl
theorem y6 {s : Nat} {cs : List AV} (h1 : cs.all AV.one = true) : (tX s cs).cells = cs := by
 unfold tX
 split
 ·rename_i c
  simp at h1
  exact AV.gT h1
 ·split
  ·rename_i l hl
   rw [jG hl]
   rfl
  ·rfl
theorem xV (l : List AV) (i : Nat) : (mQ l).get i = l[i]? := by
 unfold mQ
 split
 ·rename_i l' hl
  rw [jG hl]
  simp [Sq.get]
 ·rfl
theorem sA (l : List AV) : (mQ l).length = l.length := by
 unfold mQ
 split
 ·rename_i l' hl
  rw [jG hl]
  simp [Sq.length]
 ·rfl
theorem vo {s : Nat} (dd : 1 ≤ s) : ∀ {parts : List (Nat × AV)} {vs : List (Nat × Value)} {c H n} {arr : Array Value} {l : List AV}, jV w c H parts vs → na s n parts = some l →
 (n + l.length) * s ≤ arr.size → ∃ q, Instr.fill (fun i => some (i * s, s)) arr vs = some q ∧ q.size = arr.size ∧ (∀ j, j < n * s → q[j]? = arr[j]?) ∧
  ∀ (i : Nat) x, l[i]? = some x → x.cells.length = s ∧ ∀ (j : Nat) y, x.cells[j]? = some y → ∃ v, q[(n + i) * s + j]? = some v ∧ y.one = true ∧ RA w c H y v ∧ v.oneCell' = true
 | [], vs, c, H, n, arr, l, hp, h, bX => by
  simp [na] at h
  subst h
  cases hp
  exact ⟨arr, rfl, rfl, fun _ _ => rfl, by simp⟩
 | (k, x) :: r, vs, c, H, n, arr, l, hp, h, bX => by
  cases hp with | cons _ _ v _ us hx ht =>
  simp only [na] at h
  split at h
  ·rename_i l' hk hr
   cases h
   simp only [Bool.and_eq_true] at hk
   have dk := Nat.eq_of_beq_eq_true hk.1.1
   subst dk
   have c1 := Nat.eq_of_beq_eq_true hk.1.2
   obtain ⟨cl, cr⟩ := hx.cells hk.2
   have bH : v.cells.size = s := by omega
   have DM : k * s + v.cells.size ≤ arr.size := by
    have : (k + 1) * s ≤ (k + (tX s x.cells :: l').length) * s := Nat.mul_le_mul_right _ (by simp)
    rw [Nat.succ_mul] at this; omega
   have OE : (k + 1 + l'.length) * s ≤ (rv arr (k * s) v).size := by
    rw [sL, show k + 1 + l'.length = k + (l'.length + 1) by omega]
    simpa using bX
   obtain ⟨q, q1, q2, q3, q4⟩ := vo dd (arr := rv arr (k * s) v) ht hr OE
   refine ⟨q, by rw [yI (off := k * s) (size := s) rfl bH DM]; exact q1, by rw [q2, sL], fun j hj => ?_, fun i y hi => ?_⟩
   ·rw [q3 j (by rw [Nat.succ_mul]; omega), u5 _ _ _ DM, if_neg (by omega)]
   ·cases i with
    | zero =>
     simp at hi
     subst hi
     rw [y6 hk.2]
     refine ⟨c1, fun j z hj => ?_⟩
     have Gk := ι hj
     obtain ⟨u, hu⟩ := gD (a := v.cells) (i := j) (by omega)
     refine ⟨u, ?_, cr j z u hj hu⟩
     rw [Nat.add_zero, q3 (k * s + j) (by rw [Nat.succ_mul]; omega), u5 _ _ _ DM, if_pos (by omega), show k * s + j - k * s = j by omega]
     exact hu
    | succ i =>
     simp at hi
     have := q4 i y hi
     rw [show k + 1 + i = k + (i + 1) by omega] at this
     exact this
  ·cases h
theorem Ae (z : Array Value) (n k : Nat) (hk : k < n) (hz : 0 < z.size) : (madeCells z n)[k]? = z[k % z.size]? := by
 have : k % z.size < z.size := Nat.mod_lt _ hz
 simp [madeCells, hk, this]
theorem qA {tab : a9} (hT : bi P tab) {t : TypeId} {len : Nat} {e : TypeId} {z : gq} {zs : List T} (hd : P.underlying t = some (.slice e)) (hz : tab e = some z) (n_ : z.zero = some zs) (c3 : len * z.size ≤ 16777216) (vs : Array (Nat × Value)) :
 ∃ tK : Array Value, tK.size = len * z.size ∧ ∀ q, Instr.fill (fun i => some (i * z.size, z.size)) tK vs.toList = some q →
  (Instr.buildSlice t len vs).run P w = .ok (.slice (some ⟨w.heap.size, 0, none⟩) len len) (w.alloc (.cells q e)) := by
 obtain ⟨zv, r, ir, _⟩ := iT (w := w) hT hz n_
 have J_ : ¬ len * z.size > 16777216 := by omega
 have bH := run_sizeOf hT hz w
 by_cases hn : len * z.size = 0
 ·refine ⟨(Array.range (len * z.size)).map ((#[] : Array Value)[· % (#[] : Array Value).size]!), by simp, fun q hq => ?_⟩
  simp only [Instr.buildSlice, Sem.run_bind, run_underlying hd, Result.andThen_ok, bH, show (2 : Nat) ^ 24 = 16777216 by decide, if_neg J_, Sem.run_pure, if_pos hn, Sem.run_ite, pure_bind]
  rw [hq]
  simp [newRow]
 ·refine ⟨(Array.range (len * z.size)).map (zv.cells[· % zv.cells.size]!), by simp, fun q hq => ?_⟩
  simp only [Instr.buildSlice, Sem.run_bind, run_underlying hd, Result.andThen_ok, bH, show (2 : Nat) ^ 24 = 16777216 by decide, if_neg J_, Sem.run_pure, if_neg hn, Sem.run_ite, r, pure_bind]
  rw [hq]
  simp [newRow]
theorem xa {tab : a9} (hT : bi P tab) {t : TypeId} {len : Nat} {c H B} {parts : List (Nat × AV)} {vs : Array (Nat × Value)} {K : AV → AH → Prop} (hs : HS w c H B) (hp : jV w c H parts vs.toList)
 (h : mP tab t len parts H K) : iE P (Instr.buildSlice t len vs) w c H B K := by
 unfold mP at h
 rw [Γ] at h
 obtain ⟨y, hy, h⟩ := h
 have hd := (hT t y hy).d
 split at h
 ·rename_i e he
  rw [he] at hd
  rw [Γ] at h
  obtain ⟨z, hz, h⟩ := h
  rw [Γ] at h
  obtain ⟨l, tl, h⟩ := h
  rw [ap] at h
  obtain ⟨hc, h⟩ := h
  simp only [Bool.and_eq_true] at hc
  have c1 := Nat.eq_of_beq_eq_true hc.1.1.1
  have c2 := Nat.le_of_ble_eq_true hc.1.1.2
  have c3 := Nat.le_of_ble_eq_true hc.1.2
  obtain ⟨zs, n_⟩ := Option.isSome_iff_exists.1 hc.2
  obtain ⟨tK, Co, fU⟩ := qA (P := P) (w := w) hT hd hz n_ c3 vs
  obtain ⟨q, q1, q2, q3, q4⟩ := vo c2 (arr := tK) hp tl (by rw [Co, c1, Nat.zero_add]; exact Nat.le_refl _)
  have Jb : len ≤ maxLen := by
   have : len * 1 ≤ len * z.size := Nat.mul_le_mul_left _ c2
   simp [maxLen]; omega
  have J5 := sA l
  have fa := tV hs e z.size false 0 (mQ l) q len (by rw [q2, Co]) (by omega) Jb (fun i x hi => by rw [xV] at hi; have := q4 i x hi; rw [Nat.zero_add] at this; exact this)
  have GO := lR hs (.cells q e) (.arr e z.size false 0 (mQ l))
  refine ⟨_, _, _, _, _, fU q q1, ?_, fa, GO, iM hs.hB _, h⟩
  refine .sl _ _ _ _ _ _ (kp (w := w) (c := c) _).1 ⟨Nat.le_refl _, fun _ => ⟨by omega, .inr <| .inr ⟨by simp, w.heap.size, len, 0, (kp (.arr e z.size false 0 (mQ l))).2, rfl, ?_, Nat.le_refl _, by omega, .inr (by simp), fun _ => rfl⟩⟩⟩
  rw [jf, q2, Co, Nat.zero_add]
 ·exact h.elim
theorem yX {tab : a9} (hT : bi P tab) {t : TypeId} {c H B a b u v} {K : AV → AH → Prop} (hs : HS w c H B) (ha : RA w c H a u) (hb : RA w c H b v)
 (h : ol tab t a b H K) : iE P (Instr.makeSlice t u v) w c H B K := by
 unfold ol at h
 rw [Γ] at h
 obtain ⟨y, hy, h⟩ := h
 have hd := (hT t y hy).d
 split at h
 ·rename_i e k1 n k2 cp he
  rw [he] at hd
  obtain rfl := ha.int
  obtain rfl := hb.int
  rw [Γ] at h
  obtain ⟨z, hz, h⟩ := h
  rw [Γ] at h
  obtain ⟨zs, n_, h⟩ := h
  rw [ap] at h
  obtain ⟨hc, h⟩ := h
  simp only [Bool.and_eq_true, decide_eq_true_eq] at hc
  obtain ⟨⟨⟨⟨⟨⟨h0, MZ⟩, mg⟩, qL⟩, dd⟩, lH⟩, oa⟩ := hc
  have dd := Nat.le_of_ble_eq_true dd
  have lH := Nat.eq_of_beq_eq_true lH
  obtain ⟨zv, r, ir, i, hi, AL, nD, lO⟩ := iT (w := w) hT hz n_
  obtain ⟨Ec, Eb⟩ := mw (w := w) (M := c.M H) ir
  have run := run_make (P := P) w t e i zv hd hi AL k1 k2 n cp h0 MZ (by rw [lO, Int.mul_comm]; omega) (by omega)
  rw [nD] at run
  have sZ : zv.cells.size = z.size := by simpa [lH] using Ec.symm
  have tl := lD lH oa dd
  have fin : ∀ (g m : Nat), n.toNat ≤ m → m ≤ cp.toNat → (g % 2 = 1 → m = cp.toNat) → K (.sl H.length g 0 n.toNat) (H ++ [.arr e z.size false g (.ts (List.replicate m (dV z.size zs)))]) → iE P (Instr.makeSlice t (.int k1 n) (.int k2 cp)) w c H B K := by
   intro g m AJ jM Ri h
   have fa := tV hs e z.size false g (.ts (List.replicate m (dV z.size zs))) (madeCells zv.cells (cp.toNat * z.size)) cp.toNat (by rw [size_madeCells]) (by simp only [Sq.length, List.length_replicate]; exact ⟨jM, Ri⟩) (by simp [maxLen]; omega)
    (dh.ts.2 fun k x hk => by
     have yy := ι hk
     simp at yy
     have : x = dV z.size zs := by simp [yy] at hk; exact hk.symm
     subst this
     rw [tl]
     refine ⟨lH, fun j y' hj => ?_⟩
     have fy := ι hj
     have χ : k * z.size + j < cp.toNat * z.size := by
      have : (k + 1) * z.size ≤ cp.toNat * z.size := Nat.mul_le_mul_right _ (by omega)
      rw [Nat.succ_mul] at this; omega
     obtain ⟨q, hq⟩ := gD (a := zv.cells) (i := j) (by omega)
     have qJ : y'.one = true := by rw [List.all_eq_true] at oa; exact oa y' (List.mem_of_getElem? hj)
     have rt := Eb j y' q hj (by simpa using hq)
     refine ⟨q, ?_, qJ, rt, (rt.jq qJ).1⟩
     rw [Ae _ _ _ χ (by omega), sZ, Nat.mul_comm k, Nat.mul_add_mod, Nat.mod_eq_of_lt (by omega)]
     exact hq)
   have GO := lR hs (.cells (madeCells zv.cells (cp.toNat * z.size)) e) (.arr e z.size false g (.ts (List.replicate m (dV z.size zs))))
   refine ⟨_, _, _, _, _, run, ?_, fa, GO, iM hs.hB _, h⟩
   refine .sl _ _ _ _ _ _ (kp (w := w) (c := c) _).1 ⟨Nat.le_refl _, fun _ => ⟨by simp [Sq.length]; omega, .inr <| .inr ⟨by simp, w.heap.size, cp.toNat, 0, (kp (.arr e z.size false g (.ts (List.replicate m (dV z.size zs))))).2, rfl, ?_, by omega, by simp [maxLen]; omega, .inr (by simp), fun _ => rfl⟩⟩⟩
   rw [jf, size_madeCells, Nat.zero_add]
  rw [ku] at h
  rcases h with ⟨_, h⟩ | ⟨_, h⟩
  ·exact fin 1 cp.toNat (by omega) (Nat.le_refl _) (fun _ => rfl) h
  ·exact fin 0 n.toNat (Nat.le_refl _) (by omega) (by omega) h
 ·exact h.elim
theorem BR {bs : List UInt8} {i : Nat} {x : T} (h : (bs.map fun b => T.int .u8 (b.toNat : Int))[i]? = some x) : ∃ b, bs[i]? = some b ∧ x = .int .u8 (b.toNat : Int) := by
 simp only [List.getElem?_map, Option.map_eq_some_iff] at h
 obtain ⟨b, hb, rfl⟩ := h
 exact ⟨b, hb, rfl⟩
theorem nN (bs : List UInt8) : (strOfNums (bs.map fun b => (b.toNat : Int))).data.toList = bs := by
 rw [strOfNums_data, List.map_map]
 have : ((fun n : Int => UInt8.ofNat n.toNat) ∘ fun b : UInt8 => (b.toNat : Int)) = id := by funext b; simp
 rw [this, List.map_id]
theorem By {tab : a9} (hT : bi P tab) {src dst : TypeId} {c H B x v} {K : AV → Prop} (hs : HS w c H B) (h : iN tab src dst x H K) (hx : RA w c H x v) :
 ∃ y val, (convert src dst v).run P w = .ok val w ∧ RA w c H y val ∧ K y := by
 unfold iN at h
 rw [Γ] at h
 obtain ⟨y, hy, h⟩ := h
 rw [Γ] at h
 obtain ⟨z, hz, h⟩ := h
 have hd := (hT dst y hy).d
 have lI := (hT src z hz).d
 split at h
 ·rename_i k k' n he
  rw [he] at hd
  obtain rfl := hx.int
  exact ⟨_, _, by simp [convert, run_underlying lI, run_underlying hd, Conv.intToInt], .t _ _ (.int _ _), oM.1 h⟩
 ·rename_i s he
  rw [he] at hd
  obtain ⟨bs, rfl, rfl⟩ := hx.str
  refine ⟨_, .string bs, ?_, .t _ _ (.str bs), h⟩
  simp only [convert, Sem.run_bind, run_underlying lI, run_underlying hd, Result.andThen_ok]
  cases z.d <;> rfl
 ·rename_i he
  rw [he] at hd
  cases hx with | t _ _ hx =>
  cases hx
  split at h
  ·rename_i e AD
   rw [AD] at lI
   rw [Γ] at h
   obtain ⟨q, hq, h⟩ := h
   split at h
   ·rename_i uB
    have oc := (hT e q hq).d
    rw [uB] at oc
    exact ⟨_, .string ByteArray.empty, run_convert_bytes_nil w src e lI oc 0 0 dst hd, .t _ _ (.str ByteArray.empty), h⟩
   ·exact h.elim
  ·exact h.elim
 ·rename_i s l he
  rw [he] at hd
  split at h
  ·rename_i e AD
   rw [AD] at lI
   rw [Γ] at h
   obtain ⟨q, hq, h⟩ := h
   split at h
   ·rename_i uB
    have oc := (hT e q hq).d
    rw [uB] at oc
    rw [ap] at h
    obtain ⟨dd, bs, rfl, h⟩ := h
    have dd := Nat.eq_of_beq_eq_true dd
    subst dd
    cases hx with | t _ _ hx => cases hx with | vec _ _ b off cap sp vals hM ej iI kb hc hr =>
    by_cases uG : bs = []
    ·subst uG
     refine ⟨_, .string ByteArray.empty, ?_, .t _ _ (.str ByteArray.empty), h⟩
     rw [run_convert_bytes_string w src dst e _ _ _ lI oc hd]
     have hl := run_loadCells_list (P := P) w ⟨b, off, sp⟩ [] (fun j v hj => by simp at hj)
     have hl : (loadCells ⟨b, off, sp⟩ 0).run P w = .ok #[] w := hl
     simp [Conv.bytesToString, hl]
    obtain rfl := iI (fun e => uG (by simpa using e))
    have run := run_convert_bytes_arg (P := P) w src e lI oc b off (bs.map fun b => T.int .u8 (b.toNat : Int)).length cap (bs.map fun b => (b.toNat : Int)) (by simp) (fun i hi => by
     simp at hi
     have wu : (bs.map fun b => T.int .u8 (b.toNat : Int))[i]? = some (.int .u8 (bs[i].toNat : Int)) := by simp [hi]
     have h1 := (hc i _ 0 _ wu rfl).1
     rw [Nat.mul_one, Nat.add_zero] at h1
     rw [h1]
     have hv : vals i 0 = .int .u8 (bs[i].toNat : Int) := by
      have := hr i _ 0 _ wu rfl
      generalize vals i 0 = q at this
      cases this; rfl
     rw [hv]; simp [hi]) dst hd
    refine ⟨_, _, run, .t _ _ ?_, h⟩
    have e0 := nN bs
    have := RT.str (w := w) (M := c.M H) (strOfNums (bs.map fun b => (b.toNat : Int)))
    rw [e0] at this
    exact this
   ·exact h.elim
  ·exact h.elim
 ·rename_i s l he
  rw [he] at hd
  split at h
  ·rename_i e AD
   rw [AD] at lI
   rw [Γ] at h
   obtain ⟨q, hq, h⟩ := h
   split at h
   ·rename_i uB
    have oc := (hT e q hq).d
    rw [uB] at oc
    rw [ap] at h
    obtain ⟨dd, bs, Jh, h⟩ := h
    have dd := Nat.eq_of_beq_eq_true dd
    subst dd
    cases hx with | t _ _ hx =>
    rcases ri hx with ⟨gz, rfl⟩ | hx
    ·obtain rfl : bs = [] := by rw [gz] at Jh; simpa using Jh.symm
     exact ⟨_, .string ByteArray.empty, run_convert_bytes_nil w src e lI oc 0 0 dst hd, .t _ _ (.str ByteArray.empty), h⟩
    subst Jh
    cases hx with | vec _ _ b off cap sp vals hM ej iI kb hc hr =>
    by_cases uG : bs = []
    ·subst uG
     refine ⟨_, .string ByteArray.empty, ?_, .t _ _ (.str ByteArray.empty), h⟩
     rw [run_convert_bytes_string w src dst e _ _ _ lI oc hd]
     have hl := run_loadCells_list (P := P) w ⟨b, off, sp⟩ [] (fun j v hj => by simp at hj)
     have hl : (loadCells ⟨b, off, sp⟩ 0).run P w = .ok #[] w := hl
     simp [Conv.bytesToString, hl]
    obtain rfl := iI (fun e => uG (by simpa using e))
    have run := run_convert_bytes_arg (P := P) w src e lI oc b off (bs.map fun b => T.int .u8 (b.toNat : Int)).length cap (bs.map fun b => (b.toNat : Int)) (by simp) (fun i hi => by
     simp at hi
     have wu : (bs.map fun b => T.int .u8 (b.toNat : Int))[i]? = some (.int .u8 (bs[i].toNat : Int)) := by simp [hi]
     have h1 := (hc i _ 0 _ wu rfl).1
     rw [Nat.mul_one, Nat.add_zero] at h1
     rw [h1]
     have hv : vals i 0 = .int .u8 (bs[i].toNat : Int) := by
      have := hr i _ 0 _ wu rfl
      generalize vals i 0 = q at this
      cases this; rfl
     rw [hv]; simp [hi]) dst hd
    refine ⟨_, _, run, .t _ _ ?_, h⟩
    have e0 := nN bs
    have := RT.str (w := w) (M := c.M H) (strOfNums (bs.map fun b => (b.toNat : Int)))
    rw [e0] at this
    exact this
   ·exact h.elim
  ·exact h.elim
 ·rename_i b g i n he
  rw [he] at hd
  split at h
  ·rename_i e AD
   rw [AD] at lI
   rw [Γ] at h
   obtain ⟨q, hq, h⟩ := h
   split at h
   ·rename_i uB
    have oc := (hT e q hq).d
    rw [uB] at oc
    cases hx with | sl _ _ _ _ _ ν hb hm hv =>
    rw [hb] at h
    cases ν with
    | dead => exact h.elim
    | box => exact h.elim
    | iter => exact h.elim
    | arr e' s z' gen l =>
     cases l with
     | vs l => exact h.elim
     | ts l =>
      simp only at h
      rw [ap] at h
      obtain ⟨jj, bs, uG, h⟩ := h
      simp only [Bool.and_eq_true] at jj
      have qO := Nat.eq_of_beq_eq_true jj.1
      have dd := Nat.eq_of_beq_eq_true jj.2
      subst dd
      obtain ⟨hlen, hm⟩ := hm.2 qO
      have hlen : i + n ≤ l.length := hlen
      have Gv : bs.length = n := by have := congrArg List.length uG; simp at this; omega
      rcases hm with ⟨h1, h2, rfl⟩ | ⟨z1, h2, ad, rfl⟩ | ⟨aw, cb, cap, off, hg, rfl, bH, ej, qL, lL, lK⟩
      ·have h2 : l.length = 0 := h2
       have : bs = [] := List.eq_nil_of_length_eq_zero (by omega)
       subst this
       exact ⟨_, .string ByteArray.empty, run_convert_bytes_nil w src e lI oc 0 0 dst hd, .t _ _ (.str ByteArray.empty), h⟩
      ·have h2 : l.length = 0 := h2
       have : bs = [] := List.eq_nil_of_length_eq_zero (by omega)
       subst this
       refine ⟨_, .string ByteArray.empty, ?_, .t _ _ (.str ByteArray.empty), h⟩
       rw [run_convert_bytes_string w src dst e _ _ _ lI oc hd]
       have hl := run_loadCells_list (P := P) w ad [] (fun j v hj => by simp at hj)
       have hl : (loadCells ad 0).run P w = .ok #[] w := hl
       simp [Conv.bytesToString, hl]
      ·obtain ⟨arr, kW, h1, h2, h3, h4, h5⟩ := hs.arr b cb e' _ z' gen _ hb hg
       have run := run_convert_bytes_arg (P := P) w src e lI oc cb off n cap (bs.map fun b => (b.toNat : Int)) (by simpa using Gv) (fun k hk => by
        have Gh : k < bs.length := by omega
        have wu : ((l.drop i).take n)[k]? = some (.int .u8 (bs[k].toNat : Int)) := by rw [uG]; simp [Gh]
        obtain ⟨u, hu, _, rt, _⟩ := (dh.ts.1 h5 _ _ (bg wu).2).2 0 _ rfl
        have t_ : off = i * 1 := lL.resolve_left (by omega)
        rw [jQ h1, show off + k = (i + k) * 1 + 0 by omega, hu]
        cases rt
        simp [Gh]) dst hd
       refine ⟨_, _, run, .t _ _ ?_, h⟩
       have e0 := nN bs
       have := RT.str (w := w) (M := c.M H) (strOfNums (bs.map fun b => (b.toNat : Int)))
       rw [e0] at this
       exact this
   ·exact h.elim
  ·exact h.elim
 ·exact h.elim
theorem Ca {c H x v n} (hx : RA w c H x v) (h : rM H x = some n) : (∃ s, v = .string s ∧ s.size = n ∧ v_ x = true) ∨ (∃ a m, v = .slice a n m ∧ v_ x = false) := by
 unfold rM at h
 split at h
 ·cases h
  obtain ⟨s, rfl, rfl⟩ := hx.str
  exact .inl ⟨s, rfl, rfl, rfl⟩
 ·cases h
  cases hx with | t _ _ hx => cases hx with | vec => exact .inr ⟨_, _, rfl, rfl⟩
 ·cases h
  cases hx with | t _ _ hx => cases hx with
  | kA => exact .inr ⟨_, _, rfl, rfl⟩
  | κ _ _ _ hx => cases hx with | vec => exact .inr ⟨_, _, rfl, rfl⟩
 ·cases h
  cases hx with | t _ _ hx => cases hx; exact .inr ⟨_, _, rfl, rfl⟩
 ·cases hx with | sl _ _ _ _ _ ν hb hm hv =>
  rw [hb] at h
  cases ν with
  | dead => cases h
  | box => cases h
  | iter => cases h
  | arr e s z gen l =>
   simp only at h
   split at h
   ·rename_i hg
    cases h
    obtain ⟨hlen, hm⟩ := hm.2 (Nat.eq_of_beq_eq_true hg)
    rcases hm with ⟨h1, h2, rfl⟩ | ⟨z1, h2, ad, rfl⟩ | ⟨aw, cb, cap, off, _, rfl, _⟩
    ·have : n = 0 := by omega
     subst this
     exact .inr ⟨_, _, rfl, rfl⟩
    ·have : n = 0 := by omega
     subst this
     exact .inr ⟨_, _, rfl, rfl⟩
    ·exact .inr ⟨_, _, rfl, rfl⟩
   ·cases h
 ·cases h
  cases hx; exact .inr ⟨_, _, rfl, rfl⟩
 ·cases h
theorem KM {tab : a9} (hT : bi P tab) {t : TypeId} {c H x v} {K : AV → Prop} (h : rc tab t H x K) (hx : RA w c H x v) (ty : TypeId) :
 ∃ y val, (Builtin.len_ #[t] ty #[v]).run P w = .ok val w ∧ RA w c H y val ∧ K y := by
 unfold rc at h
 rw [Γ] at h
 obtain ⟨y, hy, h⟩ := h
 have hd := (hT t y hy).d
 split at h
 ·rename_i n e he
  rw [he] at hd
  refine ⟨_, .int .i64 n, ?_, .t _ _ (.int _ _), h⟩
  simp only [Builtin.len_, Sem.run_bind]
  simp [run_underlying hd, goInt]
 ·rw [ap] at h
  obtain ⟨hc, h⟩ := h
  rw [Γ] at h
  obtain ⟨n, hn, h⟩ := h
  simp only [Bool.and_eq_true] at hc
  rcases Ca hx hn with ⟨s, rfl, rfl, hs⟩ | ⟨a, m, rfl, hs⟩
  ·have he : y.d = .string := by
    cases jh : y.d <;> rw [jh] at hc <;> first | rfl | (simp [Du, Ao, hs] at hc)
   rw [he] at hd
   exact ⟨_, .int .i64 s.size, by simp [Builtin.len_, run_underlying hd, goInt], .t _ _ (.int _ _), h⟩
  ·obtain ⟨e, he⟩ : ∃ e, y.d = .slice e := by
    cases jh : y.d <;> rw [jh] at hc <;> simp [Du, Ao, hs] at hc
    exact ⟨_, rfl⟩
   rw [he] at hd
   exact ⟨_, .int .i64 n, by simp [Builtin.len_, run_underlying hd, goInt], .t _ _ (.int _ _), h⟩
theorem vv {c H x y u v} {mx : Bool} {K : AV → Prop} (h : kX mx x y K) (hx : RA w c H x u) (hy : RA w c H y v) (at_ : Array TypeId) (ty : TypeId) :
 ∃ z val, (match mx with | true => Builtin.max_ at_ ty #[u, v] | false => Builtin.min_ at_ ty #[u, v]).run P w = .ok val w ∧ RA w c H z val ∧ K z := by
 unfold kX at h
 split at h
 ·rename_i k a k' b
  obtain rfl := hx.int
  obtain rfl := hy.int
  rw [ap] at h
  obtain ⟨hk, h⟩ := h
  cases mx
  ·refine ⟨_, .int k (min a b), ?_, .t _ _ (.int _ _), h⟩
   have : (if b < a then b else a) = min a b := by omega
   simp [Builtin.min_, Builtin.min2, this]
  ·refine ⟨_, .int k (max a b), ?_, .t _ _ (.int _ _), h⟩
   have : (if a < b then b else a) = max a b := by omega
   simp [Builtin.max_, Builtin.max2, this]
 ·exact h.elim
end
end Go.Proofs.YtcogcbplmkcojaaGreatDoor
namespace Go.Proofs.YtcogcbplmkcojaaGreatDoor
open Go.RowKit
set_option linter.unusedVariables false
set_option linter.unusedSimpArgs false
section
variable {P : Program} {w : World}
theorem qg {s : Nat} (hs : 1 ≤ s) {R : AV → Value → Prop} {l : Sq} {b off : Nat} (vals : Nat → Nat → Value) (hl : ∀ (i : Nat) x, l.get i = some x → x.cells.length = s)
 (hc : ∀ (i : Nat) x (j : Nat) y, l.get i = some x → x.cells[j]? = some y → w.cell? ⟨b, off + i * s + j, none⟩ = some (vals i j) ∧ y.one = true ∧ R y (vals i j) ∧ (vals i j).oneCell' = true) :
 ∃ news : List Value, news.length = l.length * s ∧ (∀ (k : Nat) v, news[k]? = some v → w.cell? (Addr.add ⟨b, off, none⟩ k) = some v) ∧ (∀ u ∈ news, u.oneCell' = true) ∧
  ∀ (i : Nat) x, l.get i = some x → ∀ (j : Nat) y, x.cells[j]? = some y → ∃ v, news[i * s + j]? = some v ∧ y.one = true ∧ R y v ∧ v.oneCell' = true := by
 have at_ : ∀ k, k < l.length * s → ∃ x y, l.get (k / s) = some x ∧ x.cells[k % s]? = some y := by
  intro k hk
  have hd : k / s < l.length := Nat.div_lt_of_lt_mul (by rw [Nat.mul_comm]; exact hk)
  obtain ⟨x, hx⟩ := Sq.GD hd
  have hm : k % s < x.cells.length := by rw [hl _ x hx]; exact Nat.mod_lt _ hs
  exact ⟨x, x.cells[k % s], hx, List.getElem?_eq_getElem hm⟩
 refine ⟨(List.range (l.length * s)).map fun k => vals (k / s) (k % s), by simp, fun k v hk => ?_, fun u hu => ?_, fun i x hi j y hj => ?_⟩
 ·simp only [List.getElem?_map, Option.map_eq_some_iff] at hk
  obtain ⟨q, hq, rfl⟩ := hk
  have χ := ι hq
  rw [List.length_range] at χ
  rw [List.getElem?_range χ] at hq
  cases hq
  obtain ⟨x, y, e1, e2⟩ := at_ k χ
  rw [Addr.add_lit]
  have := (hc _ x _ _ e1 e2).1
  rw [show off + k / s * s + k % s = off + k by have := Nat.div_add_mod k s; rw [Nat.mul_comm]; omega] at this
  exact this
 ·simp only [List.mem_map, List.mem_range] at hu
  obtain ⟨k, hk, rfl⟩ := hu
  obtain ⟨x, y, e1, e2⟩ := at_ k hk
  exact (hc _ x _ _ e1 e2).2.2.2
 ·have Gk : j < s := by have := ι hj; have := hl i x hi; omega
  have wm := Sq.tq hi
  have χ : i * s + j < l.length * s := by
   have : (i + 1) * s ≤ l.length * s := Nat.mul_le_mul_right _ wm
   rw [Nat.succ_mul] at this; omega
  obtain ⟨_, h1, h2⟩ := hc i x j y hi hj
  refine ⟨vals i j, ?_, h1, h2⟩
  have hd : (i * s + j) / s = i := by rw [Nat.mul_comm, Nat.mul_add_div (by omega), Nat.div_eq_of_lt Gk]; rfl
  have hm : (i * s + j) % s = j := by rw [Nat.mul_comm, Nat.mul_add_mod, Nat.mod_eq_of_lt Gk]
  simp only [List.getElem?_map, List.getElem?_range χ, Option.map_some, hd, hm]
def nY (w : World) (c : Cx) (H : AH) (s : Nat) (l : Sq) (vs : List Value) : Prop :=
 ∀ (i : Nat) x, l.get i = some x → x.cells.length = s ∧ ∀ (j : Nat) y, x.cells[j]? = some y → ∃ v, vs[i * s + j]? = some v ∧ y.one = true ∧ RA w c H y v ∧ v.oneCell' = true
theorem oK {l : List T} {i : Nat} {x : AV} (h : (Sq.ts l).get i = some x) : ∃ e, l[i]? = some e ∧ x = .t e := by
 simp only [Sq.get, Option.map_eq_some_iff] at h
 obtain ⟨e, h, rfl⟩ := h
 exact ⟨e, h, rfl⟩
theorem zE {e : T} {j : Nat} {y : AV} (h : (AV.t e).cells[j]? = some y) : ∃ c, e.cells[j]? = some c ∧ y = .t c := by
 rw [T.dp] at h
 simp only [List.getElem?_map, Option.map_eq_some_iff] at h
 obtain ⟨c, h, rfl⟩ := h
 exact ⟨c, h, rfl⟩
theorem gX {w c H s} {l : Sq} {vs : List Value} (h : l.length = 0) : nY w c H s l vs := fun i x hi => by
 have := Sq.tq hi; omega
theorem uL {c H B x v s} {news : Sq} (hs : HS w c H B) (hx : RA w c H x v) (dd : 1 ≤ s) (h : appended H s x = some news) :
 ∃ vs, Reads P w s news.length v vs ∧ nY w c H s news vs := by
 unfold appended at h
 split at h
 ·rename_i l
  split at h
  ·rename_i aF
   cases h
   have aF := Nat.eq_of_beq_eq_true aF
   subst aF
   obtain ⟨bs, rfl, rfl⟩ := hx.str
   refine ⟨_, by simp only [Sq.length]; rw [List.length_map]; exact E5 w bs, fun i y hi => ?_⟩
   obtain ⟨y, eJ, rfl⟩ := oK hi
   obtain ⟨b, hb, rfl⟩ := BR eJ
   refine ⟨rfl, fun j z hj => ?_⟩
   obtain ⟨z, oe, rfl⟩ := zE hj
   have Rn : j = 0 := by have := ι oe; simp [T.cells] at this; exact this
   subst Rn
   simp [T.cells] at oe
   subst oe
   exact ⟨.int .u8 (b.toNat : Int), by simp only [List.getElem?_map, Nat.mul_one, Nat.add_zero, hb, Option.map_some], rfl, .t _ _ (.int _ _), rfl⟩
  ·cases h
 ·rename_i s' l
  split at h
  ·rename_i aF
   cases h
   have aF := Nat.eq_of_beq_eq_true aF
   subst aF
   cases hx with | t _ _ hx => cases hx with | vec _ _ b off cap sp vals hM ej iI kb hc hr =>
   by_cases gz : l = []
   ·subst gz
    exact ⟨[], km w _ _, gX rfl⟩
   obtain rfl := iI gz
   have AB : ∀ (i : Nat) x, (Sq.ts l).get i = some x → x.cells.length = s := fun i x hi => by
    obtain ⟨e, eJ, rfl⟩ := oK hi
    rw [T.dp, List.length_map]; exact kb i e eJ
   obtain ⟨vs, h1, h2, h3, h4⟩ := qg (w := w) dd (R := RA w c H) (l := .ts l) vals AB (fun i x j y hi hj => by
    obtain ⟨e, eJ, rfl⟩ := oK hi
    obtain ⟨d, oe, rfl⟩ := zE hj
    obtain ⟨k1, k2⟩ := hc i e j d eJ oe
    have k3 := hr i e j d eJ oe
    exact ⟨k1, k2, .t _ _ k3, (k3.jq k2).1⟩)
   exact ⟨vs, mU w h1 h2 h3, fun i x hi => ⟨AB i x hi, h4 i x hi⟩⟩
  ·cases h
 ·rename_i s' l
  split at h
  ·rename_i aF
   cases h
   have aF := Nat.eq_of_beq_eq_true aF
   subst aF
   cases hx with | t _ _ hx =>
   rcases ri hx with ⟨rfl, rfl⟩ | hx
   ·exact ⟨[], sK w, gX rfl⟩
   cases hx with | vec _ _ b off cap sp vals hM ej iI kb hc hr =>
   by_cases gz : l = []
   ·subst gz
    exact ⟨[], km w _ _, gX rfl⟩
   obtain rfl := iI gz
   have AB : ∀ (i : Nat) x, (Sq.ts l).get i = some x → x.cells.length = s := fun i x hi => by
    obtain ⟨e, eJ, rfl⟩ := oK hi
    rw [T.dp, List.length_map]; exact kb i e eJ
   obtain ⟨vs, h1, h2, h3, h4⟩ := qg (w := w) dd (R := RA w c H) (l := .ts l) vals AB (fun i x j y hi hj => by
    obtain ⟨e, eJ, rfl⟩ := oK hi
    obtain ⟨d, oe, rfl⟩ := zE hj
    obtain ⟨k1, k2⟩ := hc i e j d eJ oe
    have k3 := hr i e j d eJ oe
    exact ⟨k1, k2, .t _ _ k3, (k3.jq k2).1⟩)
   exact ⟨vs, mU w h1 h2 h3, fun i x hi => ⟨AB i x hi, h4 i x hi⟩⟩
  ·cases h
 ·cases h
  cases hx with | t _ _ hx =>
  cases hx
  exact ⟨[], sK w, gX rfl⟩
 ·rename_i b g i n
  cases hx with | sl _ _ _ _ _ ν hb hm hv =>
  rw [hb] at h
  cases ν with
  | dead => cases h
  | box => cases h
  | iter => cases h
  | arr e s' z gen l =>
   simp only at h
   split at h
   ·rename_i jj
    cases h
    simp only [Bool.and_eq_true] at jj
    have aF := Nat.eq_of_beq_eq_true jj.2
    subst aF
    obtain ⟨hlen, hm⟩ := hm.2 (Nat.eq_of_beq_eq_true jj.1)
    have uE : (l.part i n).length = n := by rw [Sq.jo]; omega
    rcases hm with ⟨h1, h2, rfl⟩ | ⟨z1, h2, ad, rfl⟩ | ⟨aw, cb, cap, off, hg, rfl, bH, ej, qL, lL, lK⟩
    ·have mf : n = 0 := by omega
     subst mf
     rw [uE]
     exact ⟨[], sK w, gX uE⟩
    ·have mf : n = 0 := by omega
     subst mf
     rw [uE]
     exact ⟨[], km w _ _, gX uE⟩
    ·obtain ⟨arr, kW, h1, h2, h3, h4, h5⟩ := hs.arr b cb e _ z gen l hb hg
     have iy : ∀ (k : Nat) x, (l.part i n).get k = some x → l.get (i + k) = some x := fun k x hk => by
      rw [Sq.oR] at hk
      split at hk
      ·exact hk
      ·cases hk
     have kb : ∀ (k : Nat) x, (l.part i n).get k = some x → x.cells.length = s := fun k x hk => (h5 _ x (iy k x hk)).1
     by_cases mf : n = 0
     ·subst mf
      rw [uE]
      exact ⟨[], km w _ _, gX uE⟩
     ·have t_ : off = i * s := lL.resolve_left (by omega)
      obtain ⟨vs, k1, k2, k3, k4⟩ := qg (w := w) dd (R := RA w c H) (l := l.part i n) (b := cb) (off := off) (fun k j => arr.getD ((i + k) * s + j) undef) kb (fun k x j y hk hj => by
       obtain ⟨u, hu, q1, q2, q3⟩ := (h5 _ x (iy k x hk)).2 j y hj
       refine ⟨?_, q1, by simp only [Array.getD_eq_getD_getElem?, hu, Option.getD_some]; exact q2, by simp only [Array.getD_eq_getD_getElem?, hu, Option.getD_some]; exact q3⟩
       rw [jQ h1, show off + k * s + j = (i + k) * s + j by rw [t_, Nat.add_mul], hu]
       simp [Array.getD_eq_getD_getElem?, hu])
      rw [uE]
      rw [uE] at k1
      exact ⟨vs, mU w k1 k2 k3, fun k x hk => ⟨kb k x hk, k4 k x hk⟩⟩
   ·cases h
 ·cases h
  cases hx
  exact ⟨[], km w _ _, gX rfl⟩
 ·cases h
theorem uJ {c H} {s : Nat} {l1 l2 : Sq} {v1 v2 : List Value} (h1 : nY w c H s l1 v1) (h2 : nY w c H s l2 v2) (hl : v1.length = l1.length * s) : nY w c H s (l1.jT l2) (v1 ++ v2) := by
 intro i x hi
 rw [Sq.xK] at hi
 by_cases χ : i < l1.length
 ·rw [if_pos χ] at hi
  obtain ⟨a, b⟩ := h1 i x hi
  refine ⟨a, fun j y hj => ?_⟩
  obtain ⟨v, hv, r⟩ := b j y hj
  exact ⟨v, by rw [List.getElem?_append_left (ι hv)]; exact hv, r⟩
 ·rw [if_neg χ] at hi
  obtain ⟨a, b⟩ := h2 _ x hi
  refine ⟨a, fun j y hj => ?_⟩
  obtain ⟨v, hv, r⟩ := b j y hj
  refine ⟨v, ?_, r⟩
  have e : i * s + j = v1.length + ((i - l1.length) * s + j) := by
   rw [hl, ← Nat.add_assoc, ← Nat.add_mul, show l1.length + (i - l1.length) = i by omega]
  rw [e, List.getElem?_append_right (by omega), show v1.length + ((i - l1.length) * s + j) - v1.length = (i - l1.length) * s + j by omega]
  exact hv
theorem rW {c H} {s : Nat} {l : Sq} {vs : List Value} {arr : Array Value} (h : nY w c H s l vs) (ha : ∀ (k : Nat) v, vs[k]? = some v → arr[k]? = some v) : dh w c H s l arr := by
 intro i x hi
 obtain ⟨a, b⟩ := h i x hi
 refine ⟨a, fun j y hj => ?_⟩
 obtain ⟨v, hv, r⟩ := b j y hj
 exact ⟨v, ha _ _ hv, r⟩
theorem GQ {c H B} (hs : HS w c H B) {b e s : Nat} {z : Bool} {g g' : Nat} {l l' : Sq} (fq : g ≤ g') (kg : g' = g ∨ g' % 2 = 0) (hb : H[b]? = some (.arr e s z g l)) (h0 : l.length = 0) (NH : l'.length = 0) :
 Ev w c H w c (H.set b (.arr e s z g' l')) ∧ HS w c (H.set b (.arr e s z g' l')) B := by
 have χ := ι hb
 have ev : Ev w c H w c (H.set b (.arr e s z g' l')) := by
  refine ⟨rfl, Nat.le_refl _, fun i bk hi => ?_, fun cb hm => ?_, fun _ _ _ => rfl, fun _ _ _ _ h => h⟩
  ·by_cases h : b = i
   ·subst h
    rw [hb] at hi; cases hi
    exact ⟨.arr e s z g' l', by simp [χ], rfl, rfl, rfl, by omega, fq, fun _ => ⟨by omega, fun _ h => ⟨h, rfl⟩⟩⟩
   ·refine ⟨bk, by rw [List.getElem?_set_ne h]; exact hi, ?_⟩
    cases bk with
    | dead => trivial
    | box cs => exact ⟨rfl, fun _ h => h⟩
    | iter s p => exact ⟨rfl, fun _ h => h⟩
    | arr => exact ⟨rfl, rfl, rfl, Nat.le_refl _, Nat.le_refl _, fun _ => ⟨rfl, fun _ h => ⟨h, rfl⟩⟩⟩
  ·rcases hm with ⟨i, bk, hi, hl, hg⟩
   ·by_cases h : b = i
    ·subst h
     exact .inl ⟨b, _, hb, rfl, hg⟩
    ·rw [List.getElem?_set_ne h] at hi
     exact .inl ⟨i, bk, hi, hl, hg⟩
 refine ⟨ev, hs.aM ev hs.inj hs.base (fun i cb h => by have := hs.jB i cb h; simpa using this) (fun i cb cs hi hg => ?_) (fun i cb e1 s1 z1 g1 l1 hi hg => ?_) (fun i cb s1 p1 hi hg => ?_)⟩
 ·by_cases h : b = i
  ·subst h; simp [χ] at hi
  ·rw [List.getElem?_set_ne h] at hi; exact .inl ⟨hi, hg, rfl⟩
 ·by_cases h : b = i
  ·subst h
   simp [χ] at hi
   obtain ⟨rfl, rfl, rfl, rfl, rfl⟩ := hi
   obtain ⟨arr, cap, a1, a2, a3, a4, a5⟩ := hs.arr b cb e s z g l hb hg
   exact .inr ⟨arr, cap, a1, a2, by omega, a4, fun k x hk => by have := Sq.tq hk; omega⟩
  ·rw [List.getElem?_set_ne h] at hi; exact .inl ⟨hi, hg, rfl⟩
 ·by_cases h : b = i
  ·subst h; simp [χ] at hi
  ·rw [List.getElem?_set_ne h] at hi; exact .inl ⟨hi, hg, rfl⟩
theorem tu {n bytes : Nat} (h : eK n bytes = true) : n ≤ 9223372036854775807 ∧ (n * bytes ≤ 140737488355328 ∨ (n + n / 4 + 192) * bytes ≤ 281474976710656) := by simpa [eK] using h
theorem BM {kj vs : List Value} {z : Array Value} {n : Nat} : (∀ (k : Nat) v, (kj ++ vs)[k]? = some v → (kj.toArray ++ vs.toArray ++ Builtin.zeroCells z n)[k]? = some v) := by
 intro k v hk
 have χ := ι hk
 rw [Array.getElem?_append_left (by simpa using χ)]
 rw [List.append_toArray, List.getElem?_toArray]
 exact hk
theorem xJ {tab : a9} {c H B} (hs : HS w c H B) (e s : Nat) (z : Bool) {news : Sq} {vs : List Value} (hc : nY w c H s news vs) (cap : Nat) (arr : Array Value) (ha : ∀ (k : Nat) v, vs[k]? = some v → arr[k]? = some v)
 (bH : arr.size = cap * s) (ej : news.length ≤ cap) (hm : cap ≤ maxLen) (aw : ¬ news.length = 0) :
 RA (w.drew.alloc (.cells arr e)) (c.new H.length w.heap.size) (H ++ [.arr e s z 0 news]) (.sl H.length 0 0 news.length) (.slice (some ⟨w.heap.size, 0, none⟩) news.length cap) ∧
 HS (w.drew.alloc (.cells arr e)) (c.new H.length w.heap.size) (H ++ [.arr e s z 0 news]) B ∧
 Ev w c H (w.drew.alloc (.cells arr e)) (c.new H.length w.heap.size) (H ++ [.arr e s z 0 news]) ∧ Below B w (w.drew.alloc (.cells arr e)) := by
 have lI : HS w.drew c H B := hs.same rfl
 have NW : Ev w c H w.drew c H := xD (w' := w.drew) (w := w) rfl c H
 have Rz : nY w.drew c H s news vs := fun i x hi => ⟨(hc i x hi).1, fun j y hj => by
  obtain ⟨v, h1, h2, h3, h4⟩ := (hc i x hi).2 j y hj
  exact ⟨v, h1, h2, h3.ev NW, h4⟩⟩
 have fa := tV lI e s z 0 news arr cap bH ⟨ej, by omega⟩ hm (rW Rz ha)
 have GO := lR lI (.cells arr e) (.arr e s z 0 news)
 refine ⟨?_, fa, NW.trans GO, wN.trans (iM lI.hB _)⟩
 refine .sl _ _ _ _ _ (.arr e s z 0 news) gp ⟨Nat.le_refl _, fun _ => ⟨by omega, .inr <| .inr ⟨fun hh => aw hh.2, w.heap.size, cap, 0, by simp [Cx.new], rfl, ?_, ej, by omega, .inr (by simp), fun _ => rfl⟩⟩⟩
 have := jf w.drew arr e
 rw [show w.drew.heap.size = w.heap.size from rfl] at this
 rw [this, bH, Nat.zero_add]
theorem sJ {c H} {s i : Nat} {l news : Sq} {vs : List Value} {arr : Array Value} (hr : dh w c H s l arr) (hc : nY w c H s news vs) (mc : vs.length = news.length * s) (hi : i + news.length ≤ l.length) (bH : l.length * s ≤ arr.size) :
 dh w c H s (l.put i news) (arr.toList.take (i * s) ++ vs ++ arr.toList.drop (i * s + vs.length)).toArray := by
 have bX : i * s + vs.length ≤ arr.size := by
  have : (i + news.length) * s ≤ l.length * s := Nat.mul_le_mul_right _ hi
  rw [Nat.add_mul] at this
  omega
 intro k x hk
 rw [Sq.K9 hi] at hk
 have vR : ∀ x, l.get k = some x → (k < i ∨ i + news.length ≤ k) → x.cells.length = s ∧ ∀ (j : Nat) y, x.cells[j]? = some y →
  ∃ v, (arr.toList.take (i * s) ++ vs ++ arr.toList.drop (i * s + vs.length)).toArray[k * s + j]? = some v ∧ y.one = true ∧ RA w c H y v ∧ v.oneCell' = true := by
  intro x hx hk
  obtain ⟨h1, h2⟩ := hr k x hx
  refine ⟨h1, fun j y hj => ?_⟩
  obtain ⟨v, b1, b2⟩ := h2 j y hj
  have fy := ι hj
  refine ⟨v, ?_, b2⟩
  rw [oC bX, if_neg ?_]
  ·exact b1
  ·rintro ⟨c1, c2⟩
   rcases hk with hk | hk
   ·have : (k + 1) * s ≤ i * s := Nat.mul_le_mul_right _ (by omega)
    rw [Nat.succ_mul] at this; omega
   ·have : (i + news.length) * s ≤ k * s := Nat.mul_le_mul_right _ hk
    rw [Nat.add_mul] at this; omega
 split at hk
 ·rename_i h1; exact vR x hk (.inl h1)
 ·split at hk
  ·rename_i h1 h2
   obtain ⟨a1, a2⟩ := hc (k - i) x hk
   refine ⟨a1, fun j y hj => ?_⟩
   obtain ⟨v, b1, b2⟩ := a2 j y hj
   have fy := ι hj
   refine ⟨v, ?_, b2⟩
   have χ := ι b1
   have e : k * s = i * s + (k - i) * s := by rw [← Nat.add_mul]; congr 1; omega
   rw [oC bX, if_pos (by omega), show k * s + j - i * s = (k - i) * s + j by omega]
   exact b1
  ·rename_i h1 h2; exact vR x hk (.inr (by omega))
theorem CS {tab : a9} (hT : bi P tab) {t u : TypeId} {c H B a x v y} {K : AV → AH → Prop} (hs : HS w c H B) (ha : RA w c H a v) (hx : RA w c H x y)
 (hu : ∃ d, P.underlying u = some d ∧ ∀ k, d ≠ .int k) (h : xc tab t H a x K) (ty : TypeId) : iE P (Builtin.append_ #[t, u] ty #[v, y]) w c H B K := by
 unfold xc at h
 rw [Γ] at h
 obtain ⟨i, hi, h⟩ := h
 have hd := (hT t i hi).d
 split at h
 ·rename_i e he
  rw [he] at hd
  rw [Γ] at h
  obtain ⟨z, hz, h⟩ := h
  rw [Γ] at h
  obtain ⟨zs, n_, h⟩ := h
  rw [Γ] at h
  obtain ⟨news, DE, h⟩ := h
  rw [ap] at h
  obtain ⟨hc, h⟩ := h
  simp only [Bool.and_eq_true] at hc
  have dd := Nat.le_of_ble_eq_true hc.1
  have lH := Nat.eq_of_beq_eq_true hc.2
  obtain ⟨zv, r, ir, inf, lN, AL, nD, lO⟩ := iT (w := w) hT hz n_
  have QP : zv.cells.size = z.size := by
   obtain ⟨q, _⟩ := mw (w := w) (M := c.M H) ir
   simpa [lH] using q.symm
  obtain ⟨vs, reads, cont⟩ := uL (P := P) hs hx dd DE
  rw [← nD] at reads
  have mc : vs.length = news.length * z.size := by rw [← nD]; exact reads.num
  -- the model lays a new row
  have grow : ∀ (base : Option Addr) (dx gk : Nat) (kj : List Value), kj.length = dx * z.size → (∀ w' : World, w'.heap = w.heap → (Builtin.firstCells inf.size dx (.slice base dx gk)).run P w' = .ok kj.toArray w') →
   gk < dx + news.length → eK (dx + news.length) z.bytes = true → ∃ arr cap, (Builtin.append_ #[t, u] ty #[.slice base dx gk, y]).run P w =
    .ok (.slice (some ⟨w.heap.size, 0, none⟩) (dx + news.length) cap) (w.drew.alloc (.cells arr e)) ∧ arr.size = cap * z.size ∧ dx + news.length ≤ cap ∧ cap ≤ maxLen ∧ ∀ (k : Nat) v, (kj ++ vs)[k]? = some v → arr[k]? = some v := by
   intro base dx gk kj uC ho hg hf
   obtain ⟨f1, f2⟩ := tu hf
   have run := zO (P := P) w t u ty e inf zv hd hu lN AL base dx gk kj ho y news.length vs reads hg f1 (by rw [lO]; exact f2)
   have eE := grownCap_ge w (dx + news.length) gk e
   have Nq : grownCap w (dx + news.length) gk e ≤ maxLen := grownCap_le_maxLen w _ gk e (by simp only [maxLen]; omega)
   refine ⟨_, _, run, ?_, eE, Nq, BM⟩
   simp only [Array.size_append, List.size_toArray, size_zeroCells, QP, uC, mc, ← Nat.add_mul]
   congr 1; omega
  split at h
  · -- nil
   rw [ap] at h
   obtain ⟨hf, h⟩ := h
   cases ha with | t _ _ ha =>
   cases ha
   by_cases aw : news.length = 0
   ·rw [aw] at reads
    have qK : vs = [] := List.eq_nil_of_length_eq_zero (by rw [mc, aw, Nat.zero_mul])
    have run := sG (P := P) w t u ty e inf hd hu lN y vs reads
    obtain ⟨ev, aF⟩ := oU hs (.arr e z.size true 0 news)
    exact ⟨_, _, w, c, _, run, .sl _ _ _ _ _ (.arr e z.size true 0 news) gp ⟨Nat.le_refl _, fun _ => ⟨by omega, .inl ⟨rfl, aw, rfl⟩⟩⟩, aF, ev, Below.refl _ _, h⟩
   ·obtain ⟨arr, cap, run, a1, a2, a3, a4⟩ := grow none 0 0 [] (by simp) (fun w' _ => run_firstCells_none w' _ _ _ _) (by omega) (by rw [Nat.zero_add]; exact hf)
    simp only [Nat.zero_add, List.nil_append] at run a2 a4
    obtain ⟨r1, r2, r3, r4⟩ := xJ (tab := tab) hs e z.size true cont cap arr a4 a1 a2 a3 aw
    exact ⟨_, _, _, _, _, run, r1, r2, r3, r4, h⟩
  · -- empty, elsewhere
   rw [ap] at h
   obtain ⟨hf, h⟩ := h
   cases ha with | dc ad =>
   by_cases aw : news.length = 0
   ·rw [aw] at reads
    have qK : vs = [] := List.eq_nil_of_length_eq_zero (by rw [mc, aw, Nat.zero_mul])
    have run := sH (P := P) w t u ty e inf hd hu lN ad y vs reads
    obtain ⟨ev, aF⟩ := oU hs (.arr e z.size false 0 news)
    exact ⟨_, _, w, c, _, run, .sl _ _ _ _ _ (.arr e z.size false 0 news) gp ⟨Nat.le_refl _, fun _ => ⟨by omega, .inr (.inl ⟨rfl, aw, ad, rfl⟩)⟩⟩, aF, ev, Below.refl _ _, h⟩
   ·obtain ⟨arr, cap, run, a1, a2, a3, a4⟩ := grow (some ad) 0 0 [] (by simp) (fun w' _ => run_firstCells_some w' _ 0 _ 0 0 [] (by simp) (by simp)) (by omega) (by rw [Nat.zero_add]; exact hf)
    simp only [Nat.zero_add, List.nil_append] at run a2 a4
    obtain ⟨r1, r2, r3, r4⟩ := xJ (tab := tab) hs e z.size false cont cap arr a4 a1 a2 a3 aw
    exact ⟨_, _, _, _, _, run, r1, r2, r3, r4, h⟩
  · -- a row of the walk's own
   rename_i b g j n
   cases ha with | sl _ _ _ _ _ ν hb hm hv =>
   rw [hb] at h
   cases ν with
   | dead => exact h.elim
   | box => exact h.elim
   | iter => exact h.elim
   | arr e' s' z' gen l =>
    simp only at h
    rw [ap] at h
    obtain ⟨jj, h⟩ := h
    simp only [Bool.and_eq_true] at jj
    have ti := Nat.eq_of_beq_eq_true jj.1.1.1
    have hj := Nat.eq_of_beq_eq_true jj.1.1.2
    have Ru := Nat.eq_of_beq_eq_true jj.1.2
    have kb := Nat.eq_of_beq_eq_true jj.2
    subst ti hj Ru kb
    obtain ⟨_, hm⟩ := hm.2 rfl
    have NW : Ev w c H w.drew c H := xD (w' := w.drew) (w := w) rfl c H
    have Nf : Ψ.fix (.arr e z.size z' g l) = true → c.G b ≠ none := by
     intro hf
     simp only [Ψ.fix, Bool.and_eq_true, Bool.not_eq_true', decide_eq_true_eq] at hf
     rcases hm with ⟨z1, l1, _⟩ | ⟨z1, l1, _⟩ | ⟨_, cb, cap, off, hg, _⟩
     ·omega
     ·omega
     ·rw [hg]; simp
    rcases h with ⟨sm, h⟩ | h
    rotate_left
    · -- within what is there
     rw [ap] at h
     obtain ⟨aG, h⟩ := h
     simp only [Bool.and_eq_true] at aG
     have pj := Nat.le_of_ble_eq_true aG.1
     have aG := Nat.le_of_ble_eq_true aG.2
     rcases hm with ⟨z1, l1, rfl⟩ | ⟨z1, l1, ad, rfl⟩ | ⟨DF, cb, cap, off, hg, rfl, bH, ej, qL, lL, lK⟩
     ·omega
     ·omega
     obtain rfl := lK rfl
     obtain ⟨arr, kW, h1, h2, h3, h4, h5⟩ := hs.arr b cb e z.size z' g l hb hg
     have Jg : kW = cap := by
      simp only [dI, h1, Nat.zero_add] at bH
      rw [h2] at bH
      exact (Nat.eq_of_mul_eq_mul_right (by omega) bH).symm
     subst Jg
     have bX : n * inf.size + vs.length ≤ arr.size := by rw [nD, mc, h2, ← Nat.add_mul]; exact Nat.mul_le_mul_right _ (by omega)
     have run := sF (P := P) w t u ty e inf hd hu lN cb n kW arr h1 y news.length vs reads (by omega) bX
     rw [nD] at run bX
     obtain ⟨ev, aF⟩ := qz hs hb hg h1 (kO (vs := vs) bX) h2 (l' := l.put n news) (g' := g) (by rw [Sq.eY aG]; omega) h4 (Nat.le_refl _) (by rw [Sq.eY aG]; exact Nat.le_refl _) (fun _ => Sq.eY aG)
      (sJ h5 cont mc aG (by rw [h2]; exact Nat.mul_le_mul_right _ h3.1))
     have χ := ι hb
     refine ⟨_, _, _, _, _, run, .sl _ _ _ _ _ (.arr e z.size z' g (l.put n news)) (by simp [χ]) ⟨Nat.le_refl _, fun _ => ⟨by rw [Sq.eY aG]; omega, .inr <| .inr ⟨fun hh => DF ⟨hh.1, by have := hh.2; rw [Sq.eY aG] at this; exact this⟩, cb, kW, 0, hg, rfl, ?_, by omega, by omega, .inr (by simp), fun _ => rfl⟩⟩⟩, aF, ev, jk (hs.base _ _ hg).1 _, h⟩
     simp only [dI, setRow_heap w cb arr _ e _ h1, kO (vs := vs) bX, h2, Nat.zero_add]
    rw [ap] at h
    obtain ⟨hf, h⟩ := h
    -- in a new block
    have move : ∀ (kj : List Value), kj.length = n * z.size → nY w c H z.size l kj → ∀ arr cap, arr.size = cap * z.size → n + news.length ≤ cap → cap ≤ maxLen → (∀ (k : Nat) v, (kj ++ vs)[k]? = some v → arr[k]? = some v) → ¬ news.length = 0 →
     (Builtin.append_ #[t, u] ty #[v, y]).run P w = .ok (.slice (some ⟨w.heap.size, 0, none⟩) (n + news.length) cap) (w.drew.alloc (.cells arr e)) → iE P (Builtin.append_ #[t, u] ty #[v, y]) w c H B K := by
     intro kj uC Kl arr cap a1 a2 a3 a4 aw run
     have og := Sq.ez l news
     obtain ⟨ev, aF⟩ := IQ hs hb arr (l' := l.jT news) (g' := g + 2 - g % 2) (cap := cap) a1 (by omega) a3 (by omega) Nf (by omega) (rW (uJ Kl cont (by rw [uC, sm])) a4)
     have χ := ι hb
     refine ⟨_, _, _, _, _, run, .sl _ _ _ _ _ (.arr e z.size z' (g + 2 - g % 2) (l.jT news)) (by simp [χ]) ⟨Nat.le_refl _, fun _ => ⟨by rw [Sq.ez]; omega, .inr <| .inr ⟨fun hh => ?_, w.heap.size, cap, 0, by simp [Cx.new], rfl, ?_, a2, by omega, .inr (by simp), fun _ => rfl⟩⟩⟩, aF, ev, wN.trans (iM (hs.same (w' := w.drew) rfl).hB _), h⟩
     ·have := hh.2; omega
     ·have := jf w.drew arr e
      rw [show w.drew.heap.size = w.heap.size from rfl] at this
      rw [this, a1, Nat.zero_add]
    -- nothing is appended, and nothing was there
    have idle : news.length = 0 → l.length = 0 → (Builtin.append_ #[t, u] ty #[v, y]).run P w = .ok v w → ((z' = true ∧ v = .slice none 0 0) ∨ (z' = false ∧ ∃ (ad : Addr), v = .slice (some ad) 0 0)) → iE P (Builtin.append_ #[t, u] ty #[v, y]) w c H B K := by
     intro h1 h2 run QX
     have mf : n = 0 := by omega
     subst mf
     have gz : (l.jT news).length = 0 := by rw [Sq.ez]; omega
     obtain ⟨ev, aF⟩ := GQ (g' := g + 2 - g % 2) hs (by omega) (.inr (by omega)) hb h2 (l' := l.jT news) gz
     rw [h1, Nat.add_zero] at h
     have χ := ι hb
     rcases QX with ⟨k1, rfl⟩ | ⟨k1, ad, rfl⟩
     ·exact ⟨_, _, w, c, _, run, .sl _ _ _ _ _ (.arr e z.size z' (g + 2 - g % 2) (l.jT news)) (by simp [χ]) ⟨Nat.le_refl _, fun _ => ⟨by omega, .inl ⟨k1, gz, rfl⟩⟩⟩, aF, ev, Below.refl _ _, h⟩
     ·exact ⟨_, _, w, c, _, run, .sl _ _ _ _ _ (.arr e z.size z' (g + 2 - g % 2) (l.jT news)) (by simp [χ]) ⟨Nat.le_refl _, fun _ => ⟨by omega, .inr (.inl ⟨k1, gz, ad, rfl⟩)⟩⟩, aF, ev, Below.refl _ _, h⟩
    rcases hm with ⟨z1, l1, rfl⟩ | ⟨z1, l1, ad, rfl⟩ | ⟨DF, cb, cap, off, hg, rfl, bH, ej, qL, lL, lK⟩
    ·have mf : n = 0 := by omega
     subst mf
     by_cases aw : news.length = 0
     ·have qK : vs = [] := List.eq_nil_of_length_eq_zero (by rw [mc, aw]; simp)
      rw [aw] at reads
      exact idle aw l1 (sG (P := P) w t u ty e inf hd hu lN y vs reads) (.inl ⟨z1, rfl⟩)
     ·obtain ⟨arr, cap, run, a1, a2, a3, a4⟩ := grow none 0 0 [] (by simp) (fun w' _ => run_firstCells_none w' _ _ _ _) (by omega) hf
      exact move [] (by simp) (gX l1) arr cap a1 a2 a3 a4 aw run
    ·have mf : n = 0 := by omega
     subst mf
     by_cases aw : news.length = 0
     ·have qK : vs = [] := List.eq_nil_of_length_eq_zero (by rw [mc, aw]; simp)
      rw [aw] at reads
      exact idle aw l1 (sH (P := P) w t u ty e inf hd hu lN ad y vs reads) (.inr ⟨z1, ad, rfl⟩)
     ·obtain ⟨arr, cap, run, a1, a2, a3, a4⟩ := grow (some ad) 0 0 [] (by simp) (fun w' _ => run_firstCells_some w' _ 0 _ 0 0 [] (by simp) (by simp)) (by omega) hf
      exact move [] (by simp) (gX l1) arr cap a1 a2 a3 a4 aw run
    ·have ho := lK rfl
     subst ho
     obtain ⟨arr, kW, h1, h2, h3, h4, h5⟩ := hs.arr b cb e z.size z' g l hb hg
     have Jg : kW = cap := by
      simp only [dI, h1, Nat.zero_add] at bH
      rw [h2] at bH
      exact (Nat.eq_of_mul_eq_mul_right (by omega) bH).symm
     subst Jg
     have uC : (arr.toList.take (n * z.size)).length = n * z.size := by
      have : n * z.size ≤ kW * z.size := Nat.mul_le_mul_right _ (by omega)
      simp; omega
     have Kl : nY w c H z.size l (arr.toList.take (n * z.size)) := fun i x hi => ⟨(h5 i x hi).1, fun j y hj => by
      obtain ⟨v, q1, q2, q3, q4⟩ := (h5 i x hi).2 j y hj
      refine ⟨v, ?_, q2, q3, q4⟩
      have fy := ι hj
      have wm := Sq.tq hi
      have := (h5 i x hi).1
      have χ : i * z.size + j < n * z.size := by
       have : (i + 1) * z.size ≤ n * z.size := Nat.mul_le_mul_right _ (by omega)
       rw [Nat.succ_mul] at this; omega
      rw [List.getElem?_take_of_lt χ]
      simpa using q1⟩
     by_cases we : n + news.length ≤ kW
     ·have bX : n * inf.size + vs.length ≤ arr.size := by rw [nD, mc, h2, ← Nat.add_mul]; exact Nat.mul_le_mul_right _ we
      have run := sF (P := P) w t u ty e inf hd hu lN cb n kW arr h1 y news.length vs reads we bX
      rw [nD] at run bX
      obtain ⟨ev, aF⟩ := qz hs hb hg h1 (kO (vs := vs) bX) h2 (l' := l.jT news) (g' := g + 2 - g % 2) (by rw [Sq.ez]; omega) h4 (by omega) (by rw [Sq.ez]; omega) (fun hh => by rw [Sq.ez]; omega)
       (rW (uJ Kl cont (by rw [uC, sm])) (fun k v hk => by
        rw [oC bX]
        by_cases χ : k < n * z.size
        ·rw [if_neg (by omega)]
         rw [List.getElem?_append_left (by omega), List.getElem?_take_of_lt χ] at hk
         simpa using hk
        ·rw [List.getElem?_append_right (by omega), uC] at hk
         have := ι hk
         rw [if_pos (by omega)]
         exact hk))
      have χ := ι hb
      refine ⟨_, _, _, _, _, run, .sl _ _ _ _ _ (.arr e z.size z' (g + 2 - g % 2) (l.jT news)) (by simp [χ]) ⟨Nat.le_refl _, fun _ => ⟨by rw [Sq.ez]; omega, .inr <| .inr ⟨fun hh => DF ⟨hh.1, ?_⟩, cb, kW, 0, hg, rfl, ?_, we, by omega, .inr (by simp), fun _ => rfl⟩⟩⟩, aF, ev, jk (hs.base b cb hg).1 _, h⟩
      ·have := hh.2; rw [Sq.ez] at this; omega
      ·simp only [dI, setRow_heap w cb arr _ e _ h1, kO (vs := vs) bX, h2, Nat.zero_add]
     ·have aw : ¬ news.length = 0 := fun e => by omega
      obtain ⟨Qp, Qo, run, a1, a2, a3, a4⟩ := grow (some ⟨cb, 0, none⟩) n kW (arr.toList.take (n * z.size)) uC (fun w' hw => run_firstCells_some w' _ n _ n kW _ (by rw [nD]; exact uC) (fun k v hk => by
       have χ := ι hk
       rw [uC] at χ
       rw [List.getElem?_take_of_lt χ] at hk
       rw [Addr.add_lit, Nat.zero_add]
       have : w'.cell? ⟨cb, k, none⟩ = w.cell? ⟨cb, k, none⟩ := by simp only [World.cell?, hw]
       rw [this, jQ h1]
       simpa using hk)) (by omega) hf
      exact move _ uC Kl Qp Qo a1 a2 a3 a4 aw run
  ·exact h.elim
 ·exact h.elim
theorem zN (t u ty e : TypeId) (i : TypeInfo) (zv : Value) (ht : P.underlying t = some (.slice e)) {ki : IntKind} (hu : P.underlying u = some (.int ki)) (hi : P.info? e = some i) (hz : i.zero = some zv)
 (n : Nat) (hn : 0 < n) (R6 : n ≤ 9223372036854775807) (bX : n * i.bytes ≤ 140737488355328 ∨ (n + n / 4 + 192) * i.bytes ≤ 281474976710656) (h1 : 1 ≤ i.size) :
 (Builtin.append_ #[t, u] ty #[.slice none 0 0, .int .i64 (n : Int)]).run P w =
  .ok (.slice (some ⟨w.heap.size, 0, none⟩) n (grownCap w n 0 e)) (w.drew.alloc (.cells (Builtin.zeroCells zv.cells n ++ Builtin.zeroCells zv.cells (grownCap w n 0 e - n)) e)) := by
 have hw : IntKind.i64.wrap (n : Int) = n := by rw [IntKind.wrap_i64]; omega
 have h0 : ¬ ((n : Int) < 0) := by omega
 have hb : ¬ (281474976710656 < (n : Int) * (i.bytes : Int)) := by
  have : n * i.bytes ≤ 281474976710656 := by
   rcases bX with h | h
   ·omega
   ·exact Nat.le_trans (Nat.mul_le_mul_right _ (by omega)) h
  have : ((n * i.bytes : Nat) : Int) ≤ 281474976710656 := by generalize n * i.bytes = q at this; omega
  rw [Int.natCast_mul] at this; omega
 have OF : Builtin.nextslicecap n 0 * i.bytes ≤ 281474976710656 := bX.elim (growslice_fits (by omega : 0 < n)) (growslice_fits_wide (by omega : 0 < n))
 have Jk : ¬ (281474976710656 < Builtin.nextslicecap n 0 * i.bytes) := by omega
 have Jj : ¬ (9223372036854775807 < (n : Int)) := by omega
 have J_ : ¬ (n * i.size = 0) := by
  intro e0
  rcases Nat.mul_eq_zero.1 e0 with e1 | e1 <;> omega
 have mf : ¬ n = 0 := by omega
 have ke : ¬ i.size = 0 := by omega
 simp [Builtin.append_, run_underlying ht, run_underlying hu, sizeOf, typeInfo, zeroValue, hi, hz, asInt, asIntOf, hw, h0, hb, mf, ke, Jj, Jk, Question.forced, Builtin.firstCells, newRow, grownCap]
 intro QR
 exact absurd QR (by simpa using J_)
theorem BF (dT sT ty elem : TypeId) (i : TypeInfo) (g o Jz Ql : Nat) (tD : Array Value) (t : TypeId) (hu : P.underlying dT = some (.slice elem)) (hi : P.info? elem = some i)
 (x : Value) (n : Nat) (news : List Value) (hx : Reads P w i.size n x news) (hn : n ≤ Jz) (hg : w.heap[g]? = some (.cells tD t (0, 0))) (bX : o + news.length ≤ tD.size) :
 (Builtin.copy_ #[dT, sT] ty #[.slice (some ⟨g, o, none⟩) Jz Ql, x]).run P w = .ok (goInt n) (w.setRow g (tD.toList.take o ++ news ++ tD.toList.drop (o + news.length)).toArray) := by
 have ka := run_storeCells_at P g o t news 0 tD w hg (by simpa using bX) hx.one
 have hm : Nat.min n Jz = n := Nat.min_eq_left hn
 have hf := hx.get w rfl
 simp only [Nat.add_zero] at ka
 simp [Builtin.copy_, run_underlying hu, hx.len, hm, sizeOf, typeInfo, hi, hf, ka]
theorem KP {tab : a9} (hT : bi P tab) {t : TypeId} {c H B x v} {K : AV → Prop} (hs : HS w c H B) (h : HK tab t H x K) (hx : RA w c H x v) (ty : TypeId) :
 ∃ y val, (Builtin.cap_ #[t] ty #[v]).run P w = .ok val w ∧ RA w c H y val ∧ K y := by
 unfold HK at h
 rw [Γ] at h
 obtain ⟨y, hy, h⟩ := h
 have hd := (hT t y hy).d
 split at h
 ·rename_i e he
  rw [he] at hd
  cases hx with | t _ _ hx =>
  cases hx
  exact ⟨_, .int .i64 0, by simp [Builtin.cap_, run_underlying hd, goInt], .t _ _ (.int _ _), h⟩
 ·rename_i e b g i n he
  rw [he] at hd
  cases hx with | sl _ _ _ _ _ ν hb hm =>
  rw [hb] at h
  cases ν with
  | dead => exact h.elim
  | box => exact h.elim
  | iter => exact h.elim
  | arr e' s z gen l =>
   simp only at h
   rw [ap] at h
   obtain ⟨fq, h⟩ := h
   obtain ⟨hlen, jM⟩ := hm.2 (Nat.eq_of_beq_eq_true fq)
   rw [ku] at h
   rcases h with ⟨h0, k⟩ | ⟨h0, h⟩
   ·simp only [Bool.and_eq_true] at h0
    have gz : l.length = 0 := Nat.eq_of_beq_eq_true h0.2
    rcases jM with ⟨z1, l1, rfl⟩ | ⟨z1, l1, ad, rfl⟩ | ⟨aw, _⟩
    ·exact ⟨_, .int .i64 0, by simp [Builtin.cap_, run_underlying hd, goInt], .t _ _ (.int _ _), k⟩
    ·rw [z1] at h0; simp at h0
    ·exact (aw ⟨h0.1, gz⟩).elim
   ·rw [ap] at h
    obtain ⟨fx, k⟩ := h
    simp only [Bool.and_eq_true] at fx
    have P9 := Nat.eq_of_beq_eq_true fx.1
    have dd := Nat.le_of_ble_eq_true fx.2
    rcases jM with ⟨z1, l1, rfl⟩ | ⟨z1, l1, ad, rfl⟩ | ⟨aw, cb, cap, off, hg, rfl, rO, ej, qL, lL, lK⟩
    ·rw [z1, l1] at h0; simp at h0
    ·refine ⟨_, .int .i64 0, by simp [Builtin.cap_, run_underlying hd, goInt], .t _ _ (.int _ _), ?_⟩
     rw [show l.length - i = 0 by omega] at k
     exact k
    ·obtain ⟨tK, JG, GC, GB, NG, R7, NF⟩ := hs.arr b cb e' s z gen l hb hg
     have : i + cap = JG := by
      simp only [dI, GC] at rO
      rw [GB] at rO
      exact Nat.eq_of_mul_eq_mul_right (by omega) rO
     have := NG.2 P9
     refine ⟨_, .int .i64 cap, by simp [Builtin.cap_, run_underlying hd, goInt], .t _ _ (.int _ _), ?_⟩
     rw [show l.length - i = cap by omega] at k
     exact k
 ·exact h.elim
theorem HI {tab : a9} (hT : bi P tab) {t u : TypeId} {c H B a x v y} {K : AV → AH → Prop} (hs : HS w c H B) (ha : RA w c H a v) (hx : RA w c H x y) (h : CP tab t a x H K) (ty : TypeId) :
 iE P (Builtin.copy_ #[t, u] ty #[v, y]) w c H B K := by
 unfold CP at h
 rw [Γ] at h
 obtain ⟨i, hi, h⟩ := h
 have hd := (hT t i hi).d
 split at h
 ·rename_i e he
  rw [he] at hd
  rw [Γ] at h
  obtain ⟨z, hz, h⟩ := h
  split at h
  ·rw [ap, Γ] at h
   obtain ⟨ka, m, hm, k⟩ := h
   cases ha with | t _ _ ha =>
   cases ha
   obtain ⟨inf, lN, nD, _⟩ := (hT e z hz).DA
   have hl : ∀ (x : Addr), (loadCells x 0).run P w = .ok #[] w := fun x => by simpa using run_loadCells_list (P := P) w x [] (by simp)
   rcases Ca hx hm with ⟨s, rfl, _, h1⟩ | ⟨a, q, rfl, _⟩
   ·rw [h1] at ka; cases ka
   ·refine .here hs (val := goInt 0) ?_ (.t _ _ (.int _ _)) k
    cases a <;> simp [Builtin.copy_, run_underlying hd, Builtin.lenOf, Builtin.firstCells, sizeOf, typeInfo, lN, storeCells, hl]
  ·rename_i b g j n
   cases ha with | sl _ _ _ _ _ ν hb hm hv =>
   rw [hb] at h
   cases ν with
   | dead => exact h.elim
   | box => exact h.elim
   | iter => exact h.elim
   | arr e' s' z' gen l =>
    simp only at h
    rw [Γ] at h
    obtain ⟨news, DE, h⟩ := h
    rw [ap, ap] at h
    obtain ⟨hc, hn, h⟩ := h
    simp only [Bool.and_eq_true] at hc
    have ti := Nat.eq_of_beq_eq_true hc.1.1.1
    have kb := Nat.eq_of_beq_eq_true hc.1.1.2
    have dd := Nat.le_of_ble_eq_true hc.1.2
    have pj := Nat.le_of_ble_eq_true hc.2
    have hn := Nat.le_of_ble_eq_true hn
    subst ti kb
    obtain ⟨sm, hm⟩ := hm.2 rfl
    obtain ⟨inf, lN, nD, _⟩ := (hT e z hz).DA
    obtain ⟨vs, reads, cont⟩ := uL (P := P) hs hx dd DE
    rw [← nD] at reads
    have mc : vs.length = news.length * z.size := by rw [← nD]; exact reads.num
    rcases hm with ⟨z1, l1, rfl⟩ | ⟨z1, l1, ad, rfl⟩ | ⟨DF, cb, cap, off, hg, rfl, bH, ej, qL, lL, lK⟩
    ·omega
    ·omega
    have aG : j + news.length ≤ l.length := by omega
    obtain ⟨arr, kW, h1, h2, h3, h4, h5⟩ := hs.arr b cb e' z.size z' g l hb hg
    have J6 : l.length * z.size ≤ arr.size := by rw [h2]; exact Nat.mul_le_mul_right _ h3.1
    have MP : (j + news.length) * z.size ≤ l.length * z.size := Nat.mul_le_mul_right _ aG
    rw [Nat.add_mul] at MP
    have χ := ι hb
    by_cases OI : cap = 0
    ·have mf : n = 0 := by omega
     have yw : news.length = 0 := by omega
     have qK : vs = [] := List.eq_nil_of_length_eq_zero (by rw [mc, yw, Nat.zero_mul])
     subst qK
     have fU : (Builtin.copy_ #[t, u] ty #[.slice (some ⟨cb, off, none⟩) n cap, y]).run P w = .ok (goInt 0) w := by
      have hf := reads.get w rfl
      rw [yw] at hf
      have hlen := reads.len
      rw [yw] at hlen
      simp [Builtin.copy_, run_underlying hd, hlen, sizeOf, typeInfo, lN, hf, storeCells]
     obtain ⟨ev, aF⟩ := qz hs hb hg h1 rfl h2 (l' := l.put j news) (g' := g) (by rw [Sq.eY aG]; omega) h4 (Nat.le_refl _) (by rw [Sq.eY aG]; exact Nat.le_refl _) (fun _ => Sq.eY aG)
      (by have := sJ h5 cont mc aG J6; simpa [List.take_append_drop] using this)
     rw [setRow_self w cb arr e' (0, 0) h1] at ev aF
     rw [yw] at h
     exact ⟨_, _, w, c, _, fU, .t _ _ (.int _ _), aF, ev, Below.refl _ _, h⟩
    have ho : off = j * z.size := lL.resolve_left OI
    subst ho
    have bX : j * z.size + vs.length ≤ arr.size := by omega
    have run := BF (P := P) (w := w) t u ty e inf cb (j * z.size) n cap arr e' hd lN y news.length vs reads hn h1 bX
    obtain ⟨ev, aF⟩ := qz hs hb hg h1 (kO (vs := vs) bX) h2 (l' := l.put j news) (g' := g) (by rw [Sq.eY aG]; omega) h4 (Nat.le_refl _) (by rw [Sq.eY aG]; exact Nat.le_refl _) (fun _ => Sq.eY aG)
     (sJ h5 cont mc aG J6)
    exact ⟨_, _, _, _, _, run, .t _ _ (.int _ _), aF, ev, jk (hs.base _ _ hg).1 _, h⟩
  ·exact h.elim
 ·exact h.elim
theorem BA {tab : a9} (hT : bi P tab) {t u : TypeId} {c H B a x v y} {K : AV → AH → Prop} (hs : HS w c H B) (ha : RA w c H a v) (hx : RA w c H x y) {ki : IntKind} (hu : P.underlying u = some (.int ki))
 (h : uN tab t a x H K) (ty : TypeId) : iE P (Builtin.append_ #[t, u] ty #[v, y]) w c H B K := by
 unfold uN at h
 rw [Γ] at h
 obtain ⟨i, hi, h⟩ := h
 have hd := (hT t i hi).d
 split at h
 ·rename_i e he
  rw [he] at hd
  rw [Γ] at h
  obtain ⟨z, hz, h⟩ := h
  rw [Γ] at h
  obtain ⟨zs, n_, h⟩ := h
  split at h
  ·rename_i k n
   rw [ap] at h
   obtain ⟨hc, h⟩ := h
   simp only [Bool.and_eq_true, decide_eq_true_eq] at hc
   obtain ⟨⟨⟨⟨⟨hk, h0⟩, hf⟩, dd⟩, lH⟩, oa⟩ := hc
   obtain rfl := uY hk
   cases ha with | t _ _ ha =>
   cases ha
   obtain rfl := hx.int
   have dd := Nat.le_of_ble_eq_true dd
   have lH := Nat.eq_of_beq_eq_true lH
   obtain ⟨f1, f2⟩ := tu hf
   obtain ⟨zv, r, ir, inf, lN, AL, nD, lO⟩ := iT (w := w) hT hz n_
   obtain ⟨Ec, Eb⟩ := mw (w := w) (M := c.M H) ir
   have sZ : zv.cells.size = z.size := by simpa [lH] using Ec.symm
   obtain ⟨m, rfl⟩ := Int.eq_ofNat_of_zero_le (Int.le_of_lt h0)
   have hm : ((m : Int)).toNat = m := rfl
   rw [hm] at f1 f2 h
   have run := zN (P := P) (w := w) t u ty e inf zv hd hu lN AL m (by omega) f1 (by rw [lO]; exact f2) (by rw [nD]; exact dd)
   have tl := lD lH oa dd
   have eE := grownCap_ge w m 0 e
   have Nq : grownCap w m 0 e ≤ maxLen := grownCap_le_maxLen w _ 0 e (by simp only [maxLen]; omega)
   have SR : (Builtin.zeroCells zv.cells m).toList.length = m * z.size := by simp [size_zeroCells, sZ]
   have cont : nY w c H z.size (.ts (List.replicate m (dV z.size zs))) (Builtin.zeroCells zv.cells m).toList := fun k x hk => by
    obtain ⟨e0, iw, rfl⟩ := oK hk
    have yy := ι iw
    simp at yy
    have : e0 = dV z.size zs := by simp [yy] at iw; exact iw.symm
    subst this
    rw [T.dp, tl]
    refine ⟨by simpa using lH, fun j y' hj => ?_⟩
    simp only [List.getElem?_map, Option.map_eq_some_iff] at hj
    obtain ⟨y', hj, rfl⟩ := hj
    have fy := ι hj
    have χ : k * z.size + j < m * z.size := by
     have : (k + 1) * z.size ≤ m * z.size := Nat.mul_le_mul_right _ (by omega)
     rw [Nat.succ_mul] at this; omega
    obtain ⟨q, hq⟩ := gD (a := zv.cells) (i := j) (by omega)
    have qJ : y'.one = true := by rw [List.all_eq_true] at oa; exact oa y' (List.mem_of_getElem? hj)
    have rt := Eb j y' q hj (by simpa using hq)
    refine ⟨q, ?_, qJ, .t _ _ rt, (rt.jq qJ).1⟩
    have Rm : (k * z.size + j) % zv.cells.size = j := by rw [sZ, Nat.mul_comm k, Nat.mul_add_mod, Nat.mod_eq_of_lt (by omega)]
    have P_ : k * z.size + j < m * zv.cells.size := by rw [sZ]; exact χ
    simp only [Builtin.zeroCells, Array.toList_map, List.getElem?_map, Array.toList_range]
    rw [List.getElem?_range P_]
    simp only [Option.map_some, Rm]
    rw [← hq]
    have : j < zv.cells.size := by omega
    simp [this]
   obtain ⟨r1, r2, r3, r4⟩ := xJ (tab := tab) hs e z.size true cont (grownCap w m 0 e) (Builtin.zeroCells zv.cells m ++ Builtin.zeroCells zv.cells (grownCap w m 0 e - m))
    (fun k v hk => by rw [Array.getElem?_append_left (by have := ι hk; simpa using this)]; simpa using hk)
    (by simp only [Array.size_append, size_zeroCells, sZ, ← Nat.add_mul]; congr 1; omega) (by simp [Sq.length]; exact eE) Nq (by simp [Sq.length]; omega)
   have hlen : (Sq.ts (List.replicate m (dV z.size zs))).length = m := by simp [Sq.length]
   rw [hlen] at r1
   exact ⟨_, _, _, _, _, run, r1, r2, r3, r4, h⟩
  ·exact h.elim
 ·exact h.elim
end
end Go.Proofs.YtcogcbplmkcojaaGreatDoor
