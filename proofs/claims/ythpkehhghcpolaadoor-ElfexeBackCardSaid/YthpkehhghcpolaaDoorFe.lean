/-
  The ground of the walks of this seat, part Fe.
-/
import Derived.Test.YthpkehhghcpolaaDoorFd
import Derived.Lib.Bytealg
import Derived.BigCall
import Derived.BigGuard
import Derived.Deep.Draws
import Derived.Deep.RegionWith
import Derived.Laws.IdiomCopy
import Derived.Laws.MakeOwn
import Derived.Lib.Buffer
import Derived.Lib.BufferAt
import Derived.Lib.BufferGrow
import Derived.Lib.BufferKept
import Derived.Lib.BufferMore
import Derived.Lib.BufferOwn
import Derived.Lib.BufferSrc
import Derived.Lib.BufferWrite
import Derived.Lib.ByteType
import Derived.Lib.Hide
import Derived.Lib.Walk
import Derived.RegionTactic
import Derived.Shelf.Bytes.GrowSlice
import Derived.Shelf.Bytes.LenAt
import Derived.Shelf.Bytes.TryGrowAt
import Derived.Shelf.LaysM
import Derived.Shelf.RegionOpenPlain
import Derived.WalkKit
namespace Go.Proofs.YthpkehhghcpolaaDoor
open Go.RowKit
set_option linter.unusedVariables false
set_option linter.unusedSimpArgs false

/-- What is written: data, or part of an own row. -/
def srcG (get : Nat → Option Blk) (e : TypeId) : AV → Option (List T)
  | .t (.vec 1 l) => some l
  | .t (.vecd 1 l) => (match l with | [] => none | x :: r => some (x :: r))
  | .sl k g i n =>
    match get k with
    | some (.arr e' 1 z gen (.ts l)) => (match Nat.beq e e' && Nat.beq g gen && Nat.ble (Nat.add i n) l.length && (!z || Nat.ble 1 l.length) with | true => some ((l.drop i).take n) | false => none)
    | _ => none
  | _ => none

def put3 (x y z : AV) : Nat → List AV → List AV
  | 0, _ :: _ :: _ :: r => x :: y :: z :: r
  | n + 1, a :: r => a :: put3 x y z n r
  | _, l => l

def get3 : Nat → List AV → Option (AV × AV × AV)
  | 0, x :: y :: z :: _ => some (x, y, z)
  | n + 1, _ :: r => get3 n r
  | _, _ => none

noncomputable def isZ : AV → Bool
  | .t (.int .i64 n) => (match n with | .ofNat k => Nat.beq k 0 | _ => false)
  | _ => false

noncomputable def isLr : AV → Bool
  | .t (.int .i8 n) => true
  | _ => false

/-- The functions that write, by number. -/
structure BufFs where
  e : TypeId
  write : FuncId
  writeString : FuncId
  writeByte : FuncId

end Go.Proofs.YthpkehhghcpolaaDoor

namespace Go.Proofs.YthpkehhghcpolaaDoor
open Go.RowKit
set_option linter.unusedVariables false
set_option linter.unusedSimpArgs false

theorem get3_spec : ∀ {o : Nat} {cells : List AV} {x y z : AV}, get3 o cells = some (x, y, z) → cells[o]? = some x ∧ cells[o + 1]? = some y ∧ cells[o + 2]? = some z
  | 0, a :: b :: c :: r, x, y, z, h => by simp [get3] at h; obtain ⟨rfl, rfl, rfl⟩ := h; exact ⟨rfl, rfl, rfl⟩
  | 0, [], x, y, z, h => by simp [get3] at h
  | 0, [_], x, y, z, h => by simp [get3] at h
  | 0, [_, _], x, y, z, h => by simp [get3] at h
  | n + 1, [], x, y, z, h => by simp [get3] at h
  | n + 1, a :: r, x, y, z, h => by
    have := get3_spec (o := n) (cells := r) (by simpa [get3] using h)
    simpa using this

theorem put3_spec {x y z : AV} : ∀ {o : Nat} {cells : List AV} {t : AV × AV × AV}, get3 o cells = some t → (put3 x y z o cells).length = cells.length ∧
    ∀ (j : Nat) u, (put3 x y z o cells)[j]? = some u → (j = o ∧ u = x) ∨ (j = o + 1 ∧ u = y) ∨ (j = o + 2 ∧ u = z) ∨ ((j < o ∨ o + 3 ≤ j) ∧ cells[j]? = some u)
  | 0, a :: b :: c :: r, t, h => by
    refine ⟨rfl, fun j u hj => ?_⟩
    match j, hj with
    | 0, hj => exact .inl ⟨rfl, by simpa [put3] using hj.symm⟩
    | 1, hj => exact .inr (.inl ⟨rfl, by simpa [put3] using hj.symm⟩)
    | 2, hj => exact .inr (.inr (.inl ⟨rfl, by simpa [put3] using hj.symm⟩))
    | j + 3, hj => exact .inr (.inr (.inr ⟨.inr (by omega), by simpa [put3] using hj⟩))
  | 0, [], t, h => by simp [get3] at h
  | 0, [_], t, h => by simp [get3] at h
  | 0, [_, _], t, h => by simp [get3] at h
  | n + 1, [], t, h => by simp [get3] at h
  | n + 1, a :: r, t, h => by
    obtain ⟨h1, h2⟩ := put3_spec (x := x) (y := y) (z := z) (o := n) (cells := r) (t := t) (by simpa [get3] using h)
    refine ⟨by simp [put3, h1], fun j u hj => ?_⟩
    match j, hj with
    | 0, hj => exact .inr (.inr (.inr ⟨.inl (by omega), by simpa [put3] using hj⟩))
    | j + 1, hj =>
      rcases h2 j u (by simpa [put3] using hj) with ⟨rfl, e⟩ | ⟨rfl, e⟩ | ⟨rfl, e⟩ | ⟨hlt, e⟩
      · exact .inl ⟨rfl, e⟩
      · exact .inr (.inl ⟨by omega, e⟩)
      · exact .inr (.inr (.inl ⟨by omega, e⟩))
      · exact .inr (.inr (.inr ⟨by omega, by simpa using e⟩))

/-- The context in which a block lies elsewhere. -/
def Cx.mv (c : Cx) (k g : Nat) : Cx := ⟨c.F, fun b => if b = k then some g else c.G b⟩

theorem two_turn {w w' : World} {c : Cx} {H : AH} {B b k cb o e gen gen' g cap lr : Nat} {l l' : List T} {cells : List AV} {t : AV × AV × AV} (hs : HS w c H B)
    (hb : H[b]? = some (.box cells)) (hcb : c.G b = some cb) (hk : H[k]? = some (.arr e 1 false gen (.ts l))) (h3 : get3 o cells = some t)
    (hfix : l ≠ [] → c.G k ≠ none) {arr cs cur : Array Value} {Tb : TypeId} (harr : w.heap[cb]? = some (.cells arr Tb (0, 0)))
    (hsz : w.heap.size ≤ w'.heap.size) (hfr : ∀ i, i < w.heap.size → i ≠ cb → c.G k ≠ some i → w'.heap[i]? = w.heap[i]?)
    (hcs : w'.heap[cb]? = some (.cells cs Tb (0, 0))) (hcz : cs.size = arr.size) (hc0 : cs[o]? = some (.slice (some ⟨g, 0, none⟩) l'.length cap)) (hc1 : cs[o + 1]? = some (.int .i64 0)) (hc2 : cs[o + 2]? = some (.int .i8 0))
    (hcr : ∀ i, (i < o ∨ o + 3 ≤ i) → cs[i]? = arr[i]?) (hg : w'.heap[g]? = some (.cells cur e (0, 0))) (hBg : B ≤ g) (hgb : g ≠ cb) (hgo : c.G k = some g ∨ w.heap.size ≤ g)
    (hcur : cur.size = cap) (hle : l'.length ≤ cap) (hm : cap ≤ maxLen) (hll : l.length ≤ l'.length) (h0 : 0 < l'.length) (hgg : gen < gen') (hev : gen' % 2 = 0)
    (hrow : Rowed w c H 1 (.ts l') cur) :
    Ev w c H w' (c.mv k g) ((H.set k (.arr e 1 false gen' (.ts l'))).set b (.box (put3 (.sl k gen' 0 l'.length) (.t (.int .i64 0)) (.t (.int .i8 0)) o cells))) ∧
    HS w' (c.mv k g) ((H.set k (.arr e 1 false gen' (.ts l'))).set b (.box (put3 (.sl k gen' 0 l'.length) (.t (.int .i64 0)) (.t (.int .i8 0)) o cells))) B := by
  have hkb : k ≠ b := by rintro rfl; rw [hk] at hb; cases hb
  have hkl := lt_of_getElem? hk
  have hbl := lt_of_getElem? hb
  obtain ⟨hpl, hps⟩ := put3_spec (x := .sl k gen' 0 l'.length) (y := .t (.int .i64 0)) (z := .t (.int .i8 0)) h3
  generalize hcells' : put3 (.sl k gen' 0 l'.length) (.t (.int .i64 0)) (.t (.int .i8 0)) o cells = cells' at hpl hps
  have gk : ((H.set k (.arr e 1 false gen' (.ts l'))).set b (.box cells'))[k]? = some (.arr e 1 false gen' (.ts l')) := by
    rw [List.getElem?_set_ne (Ne.symm hkb)]; simp [hkl]
  have gb : ((H.set k (.arr e 1 false gen' (.ts l'))).set b (.box cells'))[b]? = some (.box cells') := by simp [hbl]
  have go : ∀ i, i ≠ k → i ≠ b → ((H.set k (.arr e 1 false gen' (.ts l'))).set b (.box cells'))[i]? = H[i]? := fun i h1 h2 => by
    rw [List.getElem?_set_ne (Ne.symm h2), List.getElem?_set_ne (Ne.symm h1)]
  generalize hH' : (H.set k (.arr e 1 false gen' (.ts l'))).set b (.box cells') = H' at gk gb go
  have hlen : H'.length = H.length := by rw [← hH']; simp
  have cg : ∀ i, i ≠ k → (c.mv k g).G i = c.G i := fun i h => by simp [Cx.mv, h]
  have ck : (c.mv k g).G k = some g := by simp [Cx.mv]
  have hglt : g < w'.heap.size := (Array.getElem?_eq_some_iff.1 hg).1
  have hcblt := (hs.base b cb hcb).2
  -- places of other blocks are kept
  have keep : ∀ i cb', i ≠ k → i ≠ b → c.G i = some cb' → w'.heap[cb']? = w.heap[cb']? := fun i cb' h1 h2 h => by
    refine hfr cb' (hs.base i cb' h).2 (fun e => h2 (hs.inj i b cb' h (by rw [e]; exact hcb))) (fun e => h1 (hs.inj i k cb' h e))
  have ev : Ev w c H w' (c.mv k g) H' := by
    refine ⟨rfl, hsz, fun i blk hi => ?_, fun x hx => ?_, fun x hx hm => ?_, fun i blk hi hf hgi => ?_⟩
    · by_cases h1 : i = k
      · subst h1
        rw [hk] at hi; cases hi
        exact ⟨_, gk, rfl, rfl, rfl, hll, by omega, fun h => by omega⟩
      · by_cases h2 : i = b
        · subst h2
          rw [hb] at hi; cases hi
          exact ⟨_, gb, hpl.symm, fun cb' h => by rw [cg _ h1]; exact h⟩
        · refine ⟨blk, (go i h1 h2).trans hi, ?_⟩
          cases blk with
          | dead => trivial
          | box cs => exact ⟨rfl, fun cb' h => by rw [cg _ h1]; exact h⟩
          | iter s p => exact ⟨rfl, fun cb' h => by rw [cg _ h1]; exact h⟩
          | arr => exact ⟨rfl, rfl, rfl, Nat.le_refl _, Nat.le_refl _, fun _ => ⟨rfl, fun cb' h => ⟨by rw [cg _ h1]; exact h, by simp only [rowSize, keep i cb' h1 h2 h]⟩⟩⟩
    · rcases hx with ⟨i, blk, hi, hlv, hgi⟩
      · by_cases h1 : i = k
        · subst h1
          rw [ck] at hgi; cases hgi
          rcases hgo with h | h
          · exact .inl ⟨i, _, hk, rfl, h⟩
          · exact .inr h
        · rw [cg _ h1] at hgi
          by_cases h2 : i = b
          · subst h2; exact .inl ⟨i, _, hb, rfl, hgi⟩
          · rw [go i h1 h2] at hi; exact .inl ⟨i, blk, hi, hlv, hgi⟩
    · exact hfr x hx (fun e => hm (⟨b, _, hb, rfl, by rw [e]; exact hcb⟩)) (fun e => hm (⟨k, _, hk, rfl, e⟩))
    · by_cases h1 : i = k
      · subst h1
        rw [hk] at hi; cases hi
        simp only [Blk.fix, Sq.length, Bool.not_false, Bool.true_and, decide_eq_true_eq] at hf
        exact (hfix (List.ne_nil_of_length_pos (of_decide_eq_true hf)) hgi).elim
      · rw [cg _ h1]; exact hgi
  refine ⟨ev, hs.keep ev (fun i j cb' h1 h2 => ?_) (fun i cb' h => ?_) (fun i cb' h => ?_) (fun i cb' cs' hi hgi => ?_) (fun i cb' e' s' z' g' lq hi hgi => ?_) (fun i cb' s p hi hgi => ?_) (fun i cb' h => by
    by_cases e1 : i = k
    · subst e1; rw [ck] at h; cases h
      rcases hgo with h | h
      · exact .inl ⟨_, h⟩
      · exact .inr h
    · rw [cg _ e1] at h; exact .inl ⟨_, h⟩)⟩
  · have far : ∀ j, j ≠ k → c.G j = some g → False := fun j hj h => by
      rcases hgo with h' | h'
      · exact hj (hs.inj j k g h h')
      · have := (hs.base j g h).2; omega
    by_cases e1 : i = k
    · by_cases e2 : j = k
      · omega
      · subst e1; rw [ck] at h1; cases h1
        rw [cg _ e2] at h2
        exact (far j e2 h2).elim
    · rw [cg _ e1] at h1
      by_cases e2 : j = k
      · subst e2; rw [ck] at h2; cases h2
        exact (far i e1 h1).elim
      · rw [cg _ e2] at h2; exact hs.inj i j cb' h1 h2
  · by_cases e1 : i = k
    · subst e1; rw [ck] at h; cases h; exact ⟨hBg, hglt⟩
    · rw [cg _ e1] at h; have := hs.base i cb' h; omega
  · rw [hlen]
    by_cases e1 : i = k
    · subst e1; exact hkl
    · rw [cg _ e1] at h; exact hs.dom i cb' h
  · by_cases e1 : i = k
    · subst e1; rw [gk] at hi; cases hi
    · rw [cg _ e1] at hgi
      by_cases e2 : i = b
      · subst e2
        rw [gb] at hi; cases hi
        rw [hcb] at hgi; cases hgi
        obtain ⟨arr0, e0, a1, a2, a3⟩ := hs.box i cb cells hb hcb
        rw [harr] at a1; cases a1
        refine .inr ⟨cs, _, hcs, by omega, fun j x v hj hv => ?_⟩
        rcases hps j x hj with ⟨rfl, rfl⟩ | ⟨rfl, rfl⟩ | ⟨rfl, rfl⟩ | ⟨hj', hx⟩
        · rw [hc0] at hv; cases hv
          refine ⟨rfl, .sl k gen' 0 l'.length _ _ gk ⟨Nat.le_refl _, fun _ => ⟨by simp [Sq.length], .inr (.inr ⟨by simp, g, cap, 0, ck, rfl, ?_, hle, by omega, .inr (by omega), fun _ => rfl⟩)⟩⟩, rfl⟩
          unfold rowSize; rw [hg]; show (0 + cap) * 1 = cur.size; omega
        · rw [hc1] at hv; cases hv; exact ⟨rfl, .t _ _ (.int _ _), rfl⟩
        · rw [hc2] at hv; cases hv; exact ⟨rfl, .t _ _ (.int _ _), rfl⟩
        · rw [hcr j hj'] at hv
          obtain ⟨b1, b2, b3⟩ := a3 j x v hx hv
          exact ⟨b1, b2.ev ev, b3⟩
      · rw [go i e1 e2] at hi
        exact .inl ⟨hi, hgi, keep i cb' e1 e2 hgi⟩
  · by_cases e1 : i = k
    · subst e1
      rw [gk] at hi; cases hi
      rw [ck] at hgi; cases hgi
      refine .inr ⟨cur, cap, hg, by omega, ⟨hle, fun h => by omega⟩, hm, hrow.ev ev⟩
    · rw [cg _ e1] at hgi
      by_cases e2 : i = b
      · subst e2; rw [gb] at hi; cases hi
      · rw [go i e1 e2] at hi
        exact .inl ⟨hi, hgi, keep i cb' e1 e2 hgi⟩
  · by_cases e1 : i = k
    · subst e1; rw [gk] at hi; cases hi
    · rw [cg _ e1] at hgi
      by_cases e2 : i = b
      · subst e2; rw [gb] at hi; cases hi
      · rw [go i e1 e2] at hi
        exact .inl ⟨hi, hgi, keep i cb' e1 e2 hgi⟩

end Go.Proofs.YthpkehhghcpolaaDoor

namespace Go.Proofs.YthpkehhghcpolaaDoor
open Go.Shelf Go.RowKit Go.Proofs
set_option linter.unusedVariables false
set_option linter.unusedSimpArgs false
variable {P : Program} {ρ : Go.Shelf.Ren}

/-- The row at that place is the one that it was, or is new. -/
def RowSame (b q : Nat) (w w' : World) : Prop :=
  ∀ g l c, w'.cell? ⟨b, q, none⟩ = some (.slice (some ⟨g, 0, none⟩) l c) → (∃ l' c', w.cell? ⟨b, q, none⟩ = some (.slice (some ⟨g, 0, none⟩) l' c')) ∨ w.heap.size ≤ g

/-- The buffer's block alone has turned; its row is the one that it was, or is new; the last reading's mark stays. -/
def KR (b q : Nat) (w w' : World) : Prop :=
  w.grownBy w' (some b) ∧ RowSame b q w w' ∧ w'.cell? ⟨b, q + 2, none⟩ = w.cell? ⟨b, q + 2, none⟩

/-- The same, and the mark is 0. -/
def KL (b q : Nat) (w w' : World) : Prop :=
  w.grownBy w' (some b) ∧ RowSame b q w w' ∧ w'.cell? ⟨b, q + 2, none⟩ = some (.int .i8 0)

/-- Nothing that was there has turned but the buffer's block and its row. -/
def KP (b q : Nat) (w w' : World) : Prop :=
  w.heap.size ≤ w'.heap.size ∧ RowSame b q w w' ∧ w'.cell? ⟨b, q + 2, none⟩ = some (.int .i8 0) ∧
  ∀ k, k < w.heap.size → k ≠ b → (∀ g l c, w.cell? ⟨b, q, none⟩ = some (.slice (some ⟨g, 0, none⟩) l c) → k ≠ g) → w'.heap[k]? = w.heap[k]?

theorem RowSame.trans {b q : Nat} {a w w' : World} (h : RowSame b q a w) (hs : a.heap.size ≤ w.heap.size) (k : RowSame b q w w') : RowSame b q a w' := by
  intro g l c hc
  rcases k g l c hc with ⟨l', c', h1⟩ | h1
  · exact h g l' c' h1
  · exact .inr (Nat.le_trans hs h1)

theorem KL.trans {b q : Nat} {a w w' : World} (h : KL b q a w) (k : KR b q w w') : KL b q a w' :=
  ⟨Lib.grownBy_trans h.1 k.1, h.2.1.trans h.1.size k.2.1, k.2.2.trans h.2.2⟩

theorem KL.kept {b q : Nat} {w w' : World} (h : KL b q w w') : KP b q w w' :=
  ⟨h.1.size, h.2.1, h.2.2, fun k hk hb _ => h.1.block k hk (fun e => hb (Option.some.inj e))⟩

theorem KL.last (w : World) (b q : Nat) {u : Value} (hu : w.cell? ⟨b, q + 2, none⟩ = some u) : KL b q w (w.setCell ⟨b, q + 2, none⟩ (.int .i8 0)) := by
  refine ⟨Lib.grownBy_setCell w b (q + 2) _, fun g l c hc => .inl ⟨l, c, ?_⟩, World.cell?_setCell_same _ _ _ hu⟩
  rw [← hc]
  exact (World.cell?_setCell_other _ _ _ _ (by simp)).symm

theorem KR.fresh {b q g l c : Nat} {w w' : World} (h : w.grownBy w' (some b)) (hc : w'.cell? ⟨b, q, none⟩ = some (.slice (some ⟨g, 0, none⟩) l c)) (hg : w.heap.size ≤ g)
    (h2 : w'.cell? ⟨b, q + 2, none⟩ = w.cell? ⟨b, q + 2, none⟩) : KR b q w w' := by
  refine ⟨h, fun g' l' c' hc' => .inr ?_, h2⟩
  rw [hc] at hc'
  cases hc'
  exact hg

theorem KR.reslice {b q l c : Nat} {a : Option Addr} {w : World} (hc : w.cell? ⟨b, q, none⟩ = some (.slice a l c)) (l' c' : Nat) : KR b q w (w.setCell ⟨b, q, none⟩ (.slice a l' c')) := by
  refine ⟨Lib.grownBy_setCell w b q _, fun g l2 c2 h2 => .inl ⟨l, c, ?_⟩, World.cell?_setCell_other _ _ _ _ (by simp)⟩
  rw [World.cell?_setCell_same _ _ _ hc] at h2
  cases h2
  exact hc

theorem KL.rowKept {b q g l c : Nat} {w w' w2 : World} (h : KL b q w w') (d : w'.cell? ⟨b, q, none⟩ = some (.slice (some ⟨g, 0, none⟩) l c)) (hgb : g ≠ b)
    (h2 : w'.heap.size ≤ w2.heap.size ∧ ∀ k, k ≠ g → w2.heap[k]? = w'.heap[k]?) : KP b q w w2 := by
  have hb : ∀ i, w2.cell? ⟨b, i, none⟩ = w'.cell? ⟨b, i, none⟩ := fun i => World.cell?_of_block (h2.2 b (Ne.symm hgb))
  refine ⟨Nat.le_trans h.1.size h2.1, fun g' l' c' hc => h.2.1 g' l' c' ((hb q).symm.trans hc), (hb (q + 2)).trans h.2.2, fun k hk hb hr => ?_⟩
  refine (h2.2 k ?_).trans (h.1.block k hk (fun e => hb (Option.some.inj e)))
  rcases h.2.1 g l c d with ⟨l', c', h1⟩ | h1
  · exact hr g l' c' h1
  · omega

theorem KL.setRow {b q g l c : Nat} {w w' : World} (h : KL b q w w') (d : w'.cell? ⟨b, q, none⟩ = some (.slice (some ⟨g, 0, none⟩) l c)) (hgb : g ≠ b) (X : Array Value) : KP b q w (w'.setRow g X) :=
  h.rowKept d hgb ⟨by simp, fun k hk => setRow_other _ _ _ _ (fun e => hk (by omega))⟩

set_option maxHeartbeats 12800000 in
set_option maxRecDepth 100000 in
theorem kr_grow_row0 (L : LaysM.n252 P ρ) (T : TypeId) (R : Nat → Option Value) (B b q g cap n : Nat) (lr : Int) (cur : Array Value) (bs : List Value) (w : World) (hB : B ≤ b) (hBw : B ≤ w.heap.size)
    (hbk : LibA.Three w b q T R (.slice (some ⟨g, 0, none⟩) 0 cap) (.int .i64 0) (.int .i8 lr))
    (hl : bs.length = 0) (hBg : B ≤ g) (hg : w.heap[g]? = some (.cells cur (ρ.t 5) (0, 0))) (hlc : 0 ≤ cap) (hcm : cap ≤ maxLen) (hcs : cur.size = cap) (htake : cur.toList.take 0 = bs) (hgb : g ≠ b)
    (h1 : ∀ v ∈ bs, v.oneCell' = true) (hn : 1 ≤ n) (hroom : cap - 0 < n) (hlim : 0 + n ≤ 140737488355328) :
    Calls P (ρ.f 252) #[.pointer (some ⟨b, q, none⟩), .int .i64 n] w fun e w' => e = .returned (.int .i64 0) ∧ ∃ xs, xs.length = n ∧ LibA.IsBuffer T R (ρ.t 5) B b q (bs ++ xs) w' ∧ Below B w w' ∧ KR b q w w' ∧ w.grownBy w' (some b) := by
  have mixed := L.mixed
  have t5 := L.t5; have a5 := L.a5; have z5 := L.z5; have v5 := L.v5
  have t130 := L.t130; have a130 := L.a130; have z130 := L.z130; have v130 := L.v130
  have t3 := L.t3; have a3 := L.a3; have z3 := L.z3; have v3 := L.v3
  have t4 := L.t4; have a4 := L.a4; have z4 := L.z4; have v4 := L.v4
  have t0 := L.t0; have a0 := L.a0; have z0 := L.z0; have v0 := L.v0
  have t93 := L.t93; have u93 := run_underlying L.t93; have a93 := L.a93; have z93 := L.z93; have v93 := L.v93
  have t131 := L.t131; have a131 := L.a131; have z131 := L.z131; have v131 := L.v131
  have t37 := L.t37; have a37 := L.a37; have z37 := L.z37; have v37 := L.v37
  have t75 := L.t75; have a75 := L.a75; have z75 := L.z75; have v75 := L.v75
  have e181 : ∀ args w, (callFunc (ρ.f 181) args).run P w = .ok (.enter (ρ.f 181) args) w := enters_of L.f181 (by kernel_rfl) rfl
  have e251 : ∀ args w, (callFunc (ρ.f 251) args).run P w = .ok (.enter (ρ.f 251) args) w := enters_of L.f251 (by kernel_rfl) rfl
  have e290 : ∀ args w, (callFunc (ρ.f 290) args).run P w = .ok (.enter (ρ.f 290) args) w := enters_of L.f290 (by kernel_rfl) rfl
  have hIs : LibA.IsBuffer T R (ρ.t 5) B b q bs w := ⟨hB, _, _, hbk, ⟨by rw [hl, Nat.mul_one], .inr ⟨g, cap, cur, by rw [hl], hBg, hg, by omega, hcm, by omega, by rw [hl, Nat.mul_one]; exact htake⟩⟩, by simp [Value.ownBlock]; exact hgb⟩
  have hnil : ∀ W, (binOp .eql (ρ.t 37) (.slice (some ⟨g, 0, none⟩) 0 cap) (.slice none 0 0)).run P W = .ok (.bool false) W := fun W => Lib.run_eql_slice_some_nil W _ _ _ L.t37
  go_enter L.f252, Body.n252_ntmps ρ
  go_wp2_with (go_at_fn (ρ.f 181); refine (Any.Buffer_Len_at { L with } T R B b q bs _ hIs).mono ?_)
  rintro e W0 ⟨rfl, k, hW0⟩
  rw [hl]
  have hbk0 : LibA.Three W0 b q T R (.slice (some ⟨g, 0, none⟩) 0 cap) (.int .i64 0) (.int .i8 lr) := by rw [hW0]; exact hbk
  have hg0 : W0.heap[g]? = some (.cells cur (ρ.t 5) (0, 0)) := by rw [hW0]; exact hg
  have c0 : W0.cell? ⟨b, q, none⟩ = some (.slice (some ⟨g, 0, none⟩) 0 cap) := hbk0.c0
  have c1 : W0.cell? ⟨b, q + 1, none⟩ = some (.int .i64 0) := hbk0.c1
  have f0 : W0.frozen? ⟨b, q, none⟩ = false := hbk0.f q
  have f1 : W0.frozen? ⟨b, q + 1, none⟩ = false := hbk0.f (q + 1)
  have HW0 := Lib.hid hW0
  clear hW0 hIs
  have hcm' := hcm
  unfold maxLen at hcm'
  go_wp2_with (go_at_fn (ρ.f 251); refine (Any.Buffer_tryGrow_none_at { L with } b q _ 0 cap n _ c0 hlc hcm hroom).mono ?_; rintro e w' ⟨rfl, rfl⟩)
  have hc2 : cap ≤ 140737488355328 := by omega
  have h1' : ∀ v ∈ cur.toList.take 0, v.oneCell' = true := by rw [htake]; exact h1
  have hbW := hbk0.lt
  have hwn : IntKind.i64.wrap (n : Int) = n := by rw [IntKind.wrap_i64]; omega
  go_region_with_o (
      go_at_fn (ρ.f 290)
      refine (Any.bytes_growSlice_row { L with } g 0 cap n cur _ ?_ hcs hlc hn hlim hc2 h1').mono ?_
      exact hg0
      rintro e w2 ⟨cap2, cells, rfl, hN, hcsz, htk, hcap2, hcm2, hbel⟩
      have hbk2 : LibA.Three w2 b q T R (.slice (some ⟨g, 0, none⟩) 0 cap) (.int .i64 0) (.int .i8 lr) := hbk0.of_heap (hbel.block b hbW)
      have d0 : w2.cell? ⟨b, q, none⟩ = some (.slice (some ⟨g, 0, none⟩) 0 cap) := hbk2.c0
      have d1 : w2.cell? ⟨b, q + 1, none⟩ = some (.int .i64 0) := hbk2.c1
      have e0 : w2.frozen? ⟨b, q, none⟩ = false := hbk2.f q
      have e1 : w2.frozen? ⟨b, q + 1, none⟩ = false := hbk2.f (q + 1))
  all_goals (
    go_wp2
    go_ret
    have hsz0 : w'.heap.size = w.heap.size := by rw [HW0.out]; rfl
    have hb0 : Below B w w'.drew := by rw [HW0.out]; exact ⟨rfl, rfl, rfl, Nat.le_refl _, fun _ _ => rfl⟩
    have hg2 : w.grownBy w2 (some b) := Lib.grownBy_below (w := w'.drew) (by rw [HW0.out]; exact ⟨rfl, rfl, rfl, Nat.le_refl _, fun _ _ _ => rfl⟩) hbel
    obtain ⟨xs, q1, q2, q3⟩ := LibA.grow_end (l := 0) (n := n) hB hbk2 hN (by show B ≤ w'.heap.size; omega) (by show w'.heap.size ≠ b; omega) hcsz (htk.trans htake) hcap2 hcm2 (hb0.trans (hbel.mono (by show B ≤ w'.heap.size; omega))) _
    exact ⟨rfl, xs, q1, by simpa using q2, by simpa using q3, KR.fresh (Lib.grownBy_setB (Lib.grownBy_setB (Lib.grownBy_setB hg2 q _) (q + 1) _) q _) (((hbk2.set0 _).set1 _).set0 _).c0 (by show w.heap.size ≤ w'.heap.size; omega) ((((hbk2.set0 _).set1 _).set0 _).c2.trans hbk.c2.symm), Lib.grownBy_setB (Lib.grownBy_setB (Lib.grownBy_setB hg2 q _) (q + 1) _) q _⟩)

set_option maxHeartbeats 12800000 in
set_option maxRecDepth 100000 in
theorem kr_grow_row (L : LaysM.n252 P ρ) (T : TypeId) (R : Nat → Option Value) (B b q g l cap n : Nat) (lr : Int) (cur : Array Value) (bs : List Value) (w : World) (hB : B ≤ b) (hBw : B ≤ w.heap.size)
    (hbk : LibA.Three w b q T R (.slice (some ⟨g, 0, none⟩) l cap) (.int .i64 0) (.int .i8 lr))
    (hl : bs.length = l) (hBg : B ≤ g) (hg : w.heap[g]? = some (.cells cur (ρ.t 5) (0, 0))) (hlc : l ≤ cap) (hcm : cap ≤ maxLen) (hcs : cur.size = cap) (htake : cur.toList.take l = bs) (hgb : g ≠ b)
    (h1 : ∀ v ∈ bs, v.oneCell' = true) (hn : 1 ≤ n) (hroom : cap - l < n) (hlim : l + n ≤ 140737488355328) :
    Calls P (ρ.f 252) #[.pointer (some ⟨b, q, none⟩), .int .i64 n] w fun e w' => e = .returned (.int .i64 l) ∧ ∃ xs, xs.length = n ∧ LibA.IsBuffer T R (ρ.t 5) B b q (bs ++ xs) w' ∧ Below B w w' ∧ KR b q w w' ∧ w.grownBy w' (some b) := by
  have mixed := L.mixed
  have t5 := L.t5; have a5 := L.a5; have z5 := L.z5; have v5 := L.v5
  have t130 := L.t130; have a130 := L.a130; have z130 := L.z130; have v130 := L.v130
  have t3 := L.t3; have a3 := L.a3; have z3 := L.z3; have v3 := L.v3
  have t4 := L.t4; have a4 := L.a4; have z4 := L.z4; have v4 := L.v4
  have t0 := L.t0; have a0 := L.a0; have z0 := L.z0; have v0 := L.v0
  have t93 := L.t93; have u93 := run_underlying L.t93; have a93 := L.a93; have z93 := L.z93; have v93 := L.v93
  have t131 := L.t131; have a131 := L.a131; have z131 := L.z131; have v131 := L.v131
  have t37 := L.t37; have a37 := L.a37; have z37 := L.z37; have v37 := L.v37
  have t75 := L.t75; have a75 := L.a75; have z75 := L.z75; have v75 := L.v75
  have e181 : ∀ args w, (callFunc (ρ.f 181) args).run P w = .ok (.enter (ρ.f 181) args) w := enters_of L.f181 (by kernel_rfl) rfl
  have e251 : ∀ args w, (callFunc (ρ.f 251) args).run P w = .ok (.enter (ρ.f 251) args) w := enters_of L.f251 (by kernel_rfl) rfl
  have e290 : ∀ args w, (callFunc (ρ.f 290) args).run P w = .ok (.enter (ρ.f 290) args) w := enters_of L.f290 (by kernel_rfl) rfl
  by_cases hl0 : l = 0
  · subst hl0
    exact kr_grow_row0 { L with } T R B b q g cap n lr cur bs w hB hBw hbk hl hBg hg hlc hcm hcs htake hgb h1 hn hroom hlim
  have hIs : LibA.IsBuffer T R (ρ.t 5) B b q bs w := ⟨hB, _, _, hbk, ⟨by rw [hl, Nat.mul_one], .inr ⟨g, cap, cur, by rw [hl], hBg, hg, by omega, hcm, by omega, by rw [hl, Nat.mul_one]; exact htake⟩⟩, by simp [Value.ownBlock]; exact hgb⟩
  have hnil : ∀ W, (binOp .eql (ρ.t 37) (.slice (some ⟨g, 0, none⟩) l cap) (.slice none 0 0)).run P W = .ok (.bool false) W := fun W => Lib.run_eql_slice_some_nil W _ _ _ L.t37
  go_enter L.f252, Body.n252_ntmps ρ
  go_wp2_with (go_at_fn (ρ.f 181); refine (Any.Buffer_Len_at { L with } T R B b q bs _ hIs).mono ?_)
  rintro e W0 ⟨rfl, k, hW0⟩
  rw [hl]
  have hbk0 : LibA.Three W0 b q T R (.slice (some ⟨g, 0, none⟩) l cap) (.int .i64 0) (.int .i8 lr) := by rw [hW0]; exact hbk
  have hg0 : W0.heap[g]? = some (.cells cur (ρ.t 5) (0, 0)) := by rw [hW0]; exact hg
  have c0 : W0.cell? ⟨b, q, none⟩ = some (.slice (some ⟨g, 0, none⟩) l cap) := hbk0.c0
  have c1 : W0.cell? ⟨b, q + 1, none⟩ = some (.int .i64 0) := hbk0.c1
  have f0 : W0.frozen? ⟨b, q, none⟩ = false := hbk0.f q
  have f1 : W0.frozen? ⟨b, q + 1, none⟩ = false := hbk0.f (q + 1)
  have HW0 := Lib.hid hW0
  clear hW0 hIs
  have hcm' := hcm
  unfold maxLen at hcm'
  go_wp2_with (go_at_fn (ρ.f 251); refine (Any.Buffer_tryGrow_none_at { L with } b q _ l cap n _ c0 hlc hcm hroom).mono ?_; rintro e w' ⟨rfl, rfl⟩)
  have hc2 : cap ≤ 140737488355328 := by omega
  have h1' : ∀ v ∈ cur.toList.take l, v.oneCell' = true := by rw [htake]; exact h1
  have hbW := hbk0.lt
  have hwn : IntKind.i64.wrap (n : Int) = n := by rw [IntKind.wrap_i64]; omega
  go_region_with_o (
      go_at_fn (ρ.f 290)
      refine (Any.bytes_growSlice_row { L with } g l cap n cur _ ?_ hcs hlc hn hlim hc2 h1').mono ?_
      exact hg0
      rintro e w2 ⟨cap2, cells, rfl, hN, hcsz, htk, hcap2, hcm2, hbel⟩
      have hbk2 : LibA.Three w2 b q T R (.slice (some ⟨g, 0, none⟩) l cap) (.int .i64 0) (.int .i8 lr) := hbk0.of_heap (hbel.block b hbW)
      have d0 : w2.cell? ⟨b, q, none⟩ = some (.slice (some ⟨g, 0, none⟩) l cap) := hbk2.c0
      have d1 : w2.cell? ⟨b, q + 1, none⟩ = some (.int .i64 0) := hbk2.c1
      have e0 : w2.frozen? ⟨b, q, none⟩ = false := hbk2.f q
      have e1 : w2.frozen? ⟨b, q + 1, none⟩ = false := hbk2.f (q + 1))
  all_goals (
    go_wp2
    go_ret
    have hsz0 : w'.heap.size = w.heap.size := by rw [HW0.out]; rfl
    have hb0 : Below B w w'.drew := by rw [HW0.out]; exact ⟨rfl, rfl, rfl, Nat.le_refl _, fun _ _ => rfl⟩
    have hg2 : w.grownBy w2 (some b) := Lib.grownBy_below (w := w'.drew) (by rw [HW0.out]; exact ⟨rfl, rfl, rfl, Nat.le_refl _, fun _ _ _ => rfl⟩) hbel
    obtain ⟨xs, q1, q2, q3⟩ := LibA.grow_end hB hbk2 hN (by show B ≤ w'.heap.size; omega) (by show w'.heap.size ≠ b; omega) hcsz (htk.trans htake) hcap2 hcm2 (hb0.trans (hbel.mono (by show B ≤ w'.heap.size; omega))) _
    exact ⟨rfl, xs, q1, q2, q3, KR.fresh (Lib.grownBy_setB (Lib.grownBy_setB (Lib.grownBy_setB hg2 q _) (q + 1) _) q _) (((hbk2.set0 _).set1 _).set0 _).c0 (by show w.heap.size ≤ w'.heap.size; omega) ((((hbk2.set0 _).set1 _).set0 _).c2.trans hbk.c2.symm), Lib.grownBy_setB (Lib.grownBy_setB (Lib.grownBy_setB hg2 q _) (q + 1) _) q _⟩)

set_option maxHeartbeats 6400000 in
set_option maxRecDepth 100000 in
theorem kr_grow_nil_small (L : LaysM.n252 P ρ) (T : TypeId) (R : Nat → Option Value) (B b q n : Nat) (lr : Int) (w : World) (hB : B ≤ b) (hBw : B ≤ w.heap.size)
    (hbk : LibA.Three w b q T R (.slice none 0 0) (.int .i64 0) (.int .i8 lr)) (hn : 1 ≤ n) (h64 : n ≤ 64) :
    Calls P (ρ.f 252) #[.pointer (some ⟨b, q, none⟩), .int .i64 n] w fun e w' => e = .returned (.int .i64 0) ∧ ∃ xs, xs.length = n ∧ LibA.IsBuffer T R (ρ.t 5) B b q xs w' ∧ Below B w w' ∧ KR b q w w' ∧ w.grownBy w' (some b) := by
  have mixed := L.mixed
  have t5 := L.t5; have a5 := L.a5; have z5 := L.z5; have v5 := L.v5
  have t130 := L.t130; have a130 := L.a130; have z130 := L.z130; have v130 := L.v130
  have t3 := L.t3; have a3 := L.a3; have z3 := L.z3; have v3 := L.v3
  have t4 := L.t4; have a4 := L.a4; have z4 := L.z4; have v4 := L.v4
  have t0 := L.t0; have a0 := L.a0; have z0 := L.z0; have v0 := L.v0
  have t93 := L.t93; have u93 := run_underlying L.t93; have a93 := L.a93; have z93 := L.z93; have v93 := L.v93
  have t131 := L.t131; have a131 := L.a131; have z131 := L.z131; have v131 := L.v131
  have t37 := L.t37; have a37 := L.a37; have z37 := L.z37; have v37 := L.v37
  have t75 := L.t75; have a75 := L.a75; have z75 := L.z75; have v75 := L.v75
  have e181 : ∀ args w, (callFunc (ρ.f 181) args).run P w = .ok (.enter (ρ.f 181) args) w := enters_of L.f181 (by kernel_rfl) rfl
  have e251 : ∀ args w, (callFunc (ρ.f 251) args).run P w = .ok (.enter (ρ.f 251) args) w := enters_of L.f251 (by kernel_rfl) rfl
  obtain ⟨i0, hi, hz0, hz1, hz2⟩ := info_parts L.i5
  obtain ⟨M, hM⟩ : ∃ M, M = madeCells (Value.int .u8 0).cells ((64 : Int).toNat * i0.size) := ⟨_, rfl⟩
  have hMs : M.size = 64 := by rw [hM, size_madeCells, hz1]; rfl
  have hmk : ∀ W : World, (Instr.makeSlice (ρ.t 37) (.int .i64 (n : Int)) (.int .i64 64)).run P W = .ok (.slice (some ⟨W.heap.size, 0, none⟩) n 64) (W.alloc (.cells M (ρ.t 5))) := fun W => by
    have h := run_makeSlice (P := P) W (ρ.t 37) (ρ.t 5) i0 (.int .u8 0) L.t37 hi hz0 .i64 .i64 (n : Int) 64 (by omega) (by omega) (by rw [hz1]; decide) (by rw [hz2]; decide) (by decide)
    rw [← hM] at h
    simpa using h
  clear hM
  have hIs : LibA.IsBuffer T R (ρ.t 5) B b q [] w := ⟨hB, _, _, hbk, World.ownsRow_nil _ _ _ _, by simp [Value.ownBlock]⟩
  have hnil : ∀ W, (binOp .eql (ρ.t 37) (.slice none 0 0) (.slice none 0 0)).run P W = .ok (.bool true) W := fun W => Lib.run_eql_slice_nil_nil W _ _ L.t37
  go_enter L.f252, Body.n252_ntmps ρ
  go_wp2_with (go_at_fn (ρ.f 181); refine (Any.Buffer_Len_at { L with } T R B b q [] _ hIs).mono ?_)
  rintro e W0 ⟨rfl, k, hW0⟩
  have hbk0 : LibA.Three W0 b q T R (.slice none 0 0) (.int .i64 0) (.int .i8 lr) := by rw [hW0]; exact hbk
  have c0 : W0.cell? ⟨b, q, none⟩ = some (.slice none 0 0) := hbk0.c0
  have c1 : W0.cell? ⟨b, q + 1, none⟩ = some (.int .i64 0) := hbk0.c1
  have f0 : W0.frozen? ⟨b, q, none⟩ = false := hbk0.f q
  have f1 : W0.frozen? ⟨b, q + 1, none⟩ = false := hbk0.f (q + 1)
  have hbW0 := hbk0.lt
  have c0a : ∀ o, (W0.alloc o).cell? ⟨b, q, none⟩ = some (.slice none 0 0) := fun o => (World.cell?_of_block (a := ⟨b, q, none⟩) (Below.heap_alloc W0 o b hbW0)).trans c0
  have f0a : ∀ o, (W0.alloc o).frozen? ⟨b, q, none⟩ = false := fun o => (World.frozen?_of_block (a := ⟨b, q, none⟩) (Below.heap_alloc W0 o b hbW0)).trans f0
  have HW0 := Lib.hid hW0
  clear hW0 hIs
  go_wp2_with (go_at_fn (ρ.f 251); refine (Any.Buffer_tryGrow_none_at { L with } b q _ 0 0 n _ c0 (Nat.le_refl _) (Nat.zero_le _) (by omega)).mono ?_; rintro e w' ⟨rfl, rfl⟩)
  go_ret
  have hsz0 : w'.heap.size = w.heap.size := by rw [HW0.out]; rfl
  have hb0 : Below B w w' := by rw [HW0.out]; exact ⟨rfl, rfl, rfl, Nat.le_refl _, fun _ _ => rfl⟩
  have hg0 : w.grownBy w' (some b) := by rw [HW0.out]; exact ⟨rfl, rfl, rfl, Nat.le_refl _, fun _ _ _ => rfl⟩
  obtain ⟨xs, q1, q2, q3⟩ := LibA.grow_small_end hB hbk0 (by omega) hMs h64 (by unfold maxLen; omega) hb0
  exact ⟨rfl, xs, q1, q2, q3, KR.fresh (Lib.grownBy_allocR (Lib.grownBy_setB hg0 q _) _) (((hbk0.set0 _).of_heap (Below.heap_alloc _ _ b (by simpa [World.setCell] using hbk0.lt))).c0) (by omega) ((((hbk0.set0 _).of_heap (Below.heap_alloc _ _ b (by simpa [World.setCell] using hbk0.lt))).c2).trans hbk.c2.symm), Lib.grownBy_allocR (Lib.grownBy_setB hg0 q _) _⟩

set_option maxHeartbeats 12800000 in
set_option maxRecDepth 100000 in
theorem kr_grow_nil_big (L : LaysM.n252 P ρ) (T : TypeId) (R : Nat → Option Value) (B b q n : Nat) (lr : Int) (w : World) (hB : B ≤ b) (hBw : B ≤ w.heap.size)
    (hbk : LibA.Three w b q T R (.slice none 0 0) (.int .i64 0) (.int .i8 lr)) (h64 : 64 < n) (hlim : n ≤ 140737488355328) :
    Calls P (ρ.f 252) #[.pointer (some ⟨b, q, none⟩), .int .i64 n] w fun e w' => e = .returned (.int .i64 0) ∧ ∃ xs, xs.length = n ∧ LibA.IsBuffer T R (ρ.t 5) B b q xs w' ∧ Below B w w' ∧ KR b q w w' ∧ w.grownBy w' (some b) := by
  have mixed := L.mixed
  have t5 := L.t5; have a5 := L.a5; have z5 := L.z5; have v5 := L.v5
  have t130 := L.t130; have a130 := L.a130; have z130 := L.z130; have v130 := L.v130
  have t3 := L.t3; have a3 := L.a3; have z3 := L.z3; have v3 := L.v3
  have t4 := L.t4; have a4 := L.a4; have z4 := L.z4; have v4 := L.v4
  have t0 := L.t0; have a0 := L.a0; have z0 := L.z0; have v0 := L.v0
  have t93 := L.t93; have u93 := run_underlying L.t93; have a93 := L.a93; have z93 := L.z93; have v93 := L.v93
  have t131 := L.t131; have a131 := L.a131; have z131 := L.z131; have v131 := L.v131
  have t37 := L.t37; have a37 := L.a37; have z37 := L.z37; have v37 := L.v37
  have t75 := L.t75; have a75 := L.a75; have z75 := L.z75; have v75 := L.v75
  have e181 : ∀ args w, (callFunc (ρ.f 181) args).run P w = .ok (.enter (ρ.f 181) args) w := enters_of L.f181 (by kernel_rfl) rfl
  have e251 : ∀ args w, (callFunc (ρ.f 251) args).run P w = .ok (.enter (ρ.f 251) args) w := enters_of L.f251 (by kernel_rfl) rfl
  have e290 : ∀ args w, (callFunc (ρ.f 290) args).run P w = .ok (.enter (ρ.f 290) args) w := enters_of L.f290 (by kernel_rfl) rfl
  have hn : 1 ≤ n := by omega
  have hIs : LibA.IsBuffer T R (ρ.t 5) B b q [] w := ⟨hB, _, _, hbk, World.ownsRow_nil _ _ _ _, by simp [Value.ownBlock]⟩
  have hnil : ∀ W, (binOp .eql (ρ.t 37) (.slice none 0 0) (.slice none 0 0)).run P W = .ok (.bool true) W := fun W => Lib.run_eql_slice_nil_nil W _ _ L.t37
  go_enter L.f252, Body.n252_ntmps ρ
  go_wp2_with (go_at_fn (ρ.f 181); refine (Any.Buffer_Len_at { L with } T R B b q [] _ hIs).mono ?_)
  rintro e W0 ⟨rfl, k, hW0⟩
  have hbk0 : LibA.Three W0 b q T R (.slice none 0 0) (.int .i64 0) (.int .i8 lr) := by rw [hW0]; exact hbk
  have c0 : W0.cell? ⟨b, q, none⟩ = some (.slice none 0 0) := hbk0.c0
  have c1 : W0.cell? ⟨b, q + 1, none⟩ = some (.int .i64 0) := hbk0.c1
  have f0 : W0.frozen? ⟨b, q, none⟩ = false := hbk0.f q
  have f1 : W0.frozen? ⟨b, q + 1, none⟩ = false := hbk0.f (q + 1)
  have HW0 := Lib.hid hW0
  clear hW0 hIs
  go_wp2_with (go_at_fn (ρ.f 251); refine (Any.Buffer_tryGrow_none_at { L with } b q _ 0 0 n _ c0 (Nat.le_refl _) (Nat.zero_le _) (by omega)).mono ?_; rintro e w' ⟨rfl, rfl⟩)
  have hbW := hbk0.lt
  have hwn : IntKind.i64.wrap (n : Int) = n := by rw [IntKind.wrap_i64]; omega
  go_region_with_o (
      go_at_fn (ρ.f 290)
      refine (Any.bytes_growSlice_nil { L with } n _ hn hlim).mono ?_
      rintro e w2 ⟨cap2, cells, rfl, hN, hcsz, hcap2, hcm2, hbel⟩
      have hbk2 : LibA.Three w2 b q T R (.slice none 0 0) (.int .i64 0) (.int .i8 lr) := hbk0.of_heap (hbel.block b hbW)
      have d0 : w2.cell? ⟨b, q, none⟩ = some (.slice none 0 0) := hbk2.c0
      have d1 : w2.cell? ⟨b, q + 1, none⟩ = some (.int .i64 0) := hbk2.c1
      have e0 : w2.frozen? ⟨b, q, none⟩ = false := hbk2.f q
      have e1 : w2.frozen? ⟨b, q + 1, none⟩ = false := hbk2.f (q + 1))
  all_goals (
    go_wp2
    go_ret
    have hsz0 : w'.heap.size = w.heap.size := by rw [HW0.out]; rfl
    have hb0 : Below B w w'.drew := by rw [HW0.out]; exact ⟨rfl, rfl, rfl, Nat.le_refl _, fun _ _ => rfl⟩
    have hg2 : w.grownBy w2 (some b) := Lib.grownBy_below (w := w'.drew) (by rw [HW0.out]; exact ⟨rfl, rfl, rfl, Nat.le_refl _, fun _ _ _ => rfl⟩) hbel
    obtain ⟨xs, q1, q2, q3⟩ := LibA.grow_end (l := 0) (n := n) (bs := []) hB hbk2 hN (by show B ≤ w'.heap.size; omega) (by show w'.heap.size ≠ b; omega) hcsz (by simp) (by omega) hcm2 (hb0.trans (hbel.mono (by show B ≤ w'.heap.size; omega))) _
    exact ⟨rfl, xs, q1, by simpa using q2, by simpa using q3, KR.fresh (Lib.grownBy_setB (Lib.grownBy_setB (Lib.grownBy_setB hg2 q _) (q + 1) _) q _) (((hbk2.set0 _).set1 _).set0 _).c0 (by show w.heap.size ≤ w'.heap.size; omega) ((((hbk2.set0 _).set1 _).set0 _).c2.trans hbk.c2.symm), Lib.grownBy_setB (Lib.grownBy_setB (Lib.grownBy_setB hg2 q _) (q + 1) _) q _⟩)

theorem kr_tryGrow (L : LaysM.n251 P ρ) (T : TypeId) (R : Nat → Option Value) (B b q n : Nat) (bs : List Value) (w : World) (h : LibA.IsBuffer T R (ρ.t 5) B b q bs w) :
    Calls P (ρ.f 251) #[.pointer (some ⟨b, q, none⟩), .int .i64 n] w fun e w' =>
      (e = .returned (.tuple #[.int .i64 bs.length, .bool true]) ∧ ∃ xs, xs.length = n ∧ LibA.IsBuffer T R (ρ.t 5) B b q (bs ++ xs) w' ∧ Below B w w' ∧ KR b q w w' ∧ w.grownBy w' (some b)) ∨
      (e = .returned (.tuple #[.int .i64 0, .bool false]) ∧ w' = w ∧ LibA.NoRoom b q n w) := by
  obtain ⟨hB, lr, hc⟩ := h.cases
  rcases hc with ⟨rfl, hbk⟩ | ⟨g, cap, cur, hbk, hBg, hg, hnc, hcm, hcs, htk, hgb⟩
  · have c0 : w.cell? ⟨b, q, none⟩ = some (.slice none 0 0) := hbk.c0
    have f0 := hbk.f q
    by_cases hn : n = 0
    · subst hn
      refine (Any.Buffer_tryGrow_room_at { L with } b q none 0 0 0 w c0 f0 (Nat.le_refl _) (Nat.zero_le _) (Nat.le_refl _)).mono ?_
      rintro e w' ⟨rfl, rfl⟩
      exact Or.inl ⟨rfl, [], rfl, ⟨hB, .slice none 0 0, lr, hbk.set0 _, World.ownsRow_nil _ _ _ _, by simp [Value.ownBlock]⟩, (Below.refl B w).setCell (p := ⟨b, q, none⟩) hB _, KR.reslice c0 _ _, Lib.grownBy_setCell w b q _⟩
    · refine (Any.Buffer_tryGrow_none_at { L with } b q none 0 0 n w c0 (Nat.le_refl _) (Nat.zero_le _) (by omega)).mono ?_
      rintro e w' ⟨rfl, rfl⟩
      exact Or.inr ⟨rfl, rfl, none, 0, 0, c0, by omega⟩
  · have c0 : w.cell? ⟨b, q, none⟩ = some (.slice (some ⟨g, 0, none⟩) bs.length cap) := hbk.c0
    have f0 := hbk.f q
    by_cases hr : n ≤ cap - bs.length
    · refine (Any.Buffer_tryGrow_room_at { L with } b q _ bs.length cap n w c0 f0 hnc hcm hr).mono ?_
      rintro e w' ⟨rfl, rfl⟩
      exact Or.inl ⟨rfl, (LibA.room_end hB hbk hBg hg hcm hcs htk hgb (by omega)).imp fun xs hx => ⟨hx.1, hx.2.1, hx.2.2, KR.reslice c0 _ _, Lib.grownBy_setCell w b q _⟩⟩
    · refine (Any.Buffer_tryGrow_none_at { L with } b q _ bs.length cap n w c0 hnc hcm (by omega)).mono ?_
      rintro e w' ⟨rfl, rfl⟩
      exact Or.inr ⟨rfl, rfl, _, _, _, c0, by omega⟩

theorem kr_grow (L : LaysM.n252 P ρ) (T : TypeId) (R : Nat → Option Value) (B b q n : Nat) (bs : List Value) (w : World) (h : LibA.IsBuffer T R (ρ.t 5) B b q bs w) (hnr : LibA.NoRoom b q n w) (hBw : B ≤ w.heap.size) (h1 : ∀ v ∈ bs, v.oneCell' = true) (hlim : bs.length + n ≤ 140737488355328) :
    Calls P (ρ.f 252) #[.pointer (some ⟨b, q, none⟩), .int .i64 n] w fun e w' => e = .returned (.int .i64 bs.length) ∧ ∃ xs, xs.length = n ∧ LibA.IsBuffer T R (ρ.t 5) B b q (bs ++ xs) w' ∧ Below B w w' ∧ KR b q w w' ∧ w.grownBy w' (some b) := by
  obtain ⟨ao, l, cap0, hc, hlt⟩ := hnr
  obtain ⟨hB, lr, hcs⟩ := h.cases
  rcases hcs with ⟨rfl, hbk⟩ | ⟨g, cap, cur, hbk, hBg, hg, hnc, hcm, hcs, htk, hgb⟩
  · have c0 : w.cell? ⟨b, q, none⟩ = some (.slice none 0 0) := hbk.c0
    rw [c0] at hc
    cases hc
    by_cases h64 : n ≤ 64
    · exact kr_grow_nil_small { L with } T R B b q n lr w hB hBw hbk (by omega) h64
    · exact kr_grow_nil_big { L with } T R B b q n lr w hB hBw hbk (by omega) (by simpa using hlim)
  · have c0 : w.cell? ⟨b, q, none⟩ = some (.slice (some ⟨g, 0, none⟩) bs.length cap) := hbk.c0
    rw [c0] at hc
    cases hc
    exact kr_grow_row { L with } T R B b q g bs.length _ n lr cur bs w hB hBw hbk rfl hBg hg hnc hcm hcs htk hgb h1 (by omega) hlt hlim

end Go.Proofs.YthpkehhghcpolaaDoor

namespace Go.Proofs.YthpkehhghcpolaaDoor
open Go.Shelf Go.RowKit Go.Proofs
set_option linter.unusedVariables false
set_option linter.unusedSimpArgs false
variable {P : Program} {ρ : Go.Shelf.Ren}

set_option maxHeartbeats 6400000 in
set_option maxRecDepth 100000 in
theorem kr_Write (L : LaysM.n180 P ρ) (T : TypeId) (R : Nat → Option Value) (B b q : Nat) (bs cs : List Value) (a : Addr) (n c : Nat) (w : World) (h : LibA.IsBuffer T R (ρ.t 5) B b q bs w) (hBw : B ≤ w.heap.size) (h1 : ∀ v ∈ bs, v.oneCell' = true)
    (hn : cs.length = n) (hab : n = 0 ∨ a.block ≠ b) (hsrc : ∀ j v, cs[j]? = some v → w.cell? (a.add j) = some v) (h1c : ∀ v ∈ cs, v.oneCell' = true) (hlim : bs.length + n ≤ 140737488355328) :
    Calls P (ρ.f 180) #[.pointer (some ⟨b, q, none⟩), .slice (some a) n c] w fun e w' => e = .returned (.tuple #[.int .i64 n, .nilIface]) ∧ LibA.IsBuffer T R (ρ.t 5) B b q (bs ++ cs) w' ∧ Below B w w' ∧ KP b q w w' := by
  have mixed := L.mixed
  have t5 := L.t5; have a5 := L.a5; have z5 := L.z5; have v5 := L.v5
  have t130 := L.t130; have a130 := L.a130; have z130 := L.z130; have v130 := L.v130
  have t37 := L.t37; have a37 := L.a37; have z37 := L.z37; have v37 := L.v37
  have t3 := L.t3; have a3 := L.a3; have z3 := L.z3; have v3 := L.v3
  have t75 := L.t75; have a75 := L.a75; have z75 := L.z75; have v75 := L.v75
  have t0 := L.t0; have a0 := L.a0; have z0 := L.z0; have v0 := L.v0
  have t93 := L.t93; have u93 := run_underlying L.t93; have a93 := L.a93; have z93 := L.z93; have v93 := L.v93
  have t91 := L.t91; have a91 := L.a91; have z91 := L.z91; have v91 := L.v91
  have t131 := L.t131; have a131 := L.a131; have z131 := L.z131; have v131 := L.v131
  have t4 := L.t4; have a4 := L.a4; have z4 := L.z4; have v4 := L.v4
  have e251 : ∀ args w, (callFunc (ρ.f 251) args).run P w = .ok (.enter (ρ.f 251) args) w := enters_of L.f251 (by kernel_rfl) rfl
  have e252 : ∀ args w, (callFunc (ρ.f 252) args).run P w = .ok (.enter (ρ.f 252) args) w := enters_of L.f252 (by kernel_rfl) rfl
  obtain ⟨hB, v0, lr, hbk, -, -⟩ := id h
  have c2 : w.cell? ⟨b, q + 2, none⟩ = some (.int .i8 lr) := hbk.c2
  have f2 : w.frozen? ⟨b, q + 2, none⟩ = false := hbk.f (q + 2)
  have h' := h.setLast 0
  have hbel0 : Below B w (w.setCell ⟨b, q + 2, none⟩ (.int .i8 0)) := (Below.refl B w).setCell (p := ⟨b, q + 2, none⟩) hB _
  have hk0 : KL b q w (w.setCell ⟨b, q + 2, none⟩ (.int .i8 0)) := KL.last w b q c2
  have hg0 : w.grownBy (w.setCell ⟨b, q + 2, none⟩ (.int .i8 0)) (some b) := Lib.grownBy_setCell w b (q + 2) _
  have hBw' : B ≤ (w.setCell ⟨b, q + 2, none⟩ (.int .i8 0)).heap.size := by simpa [World.setCell] using hBw
  clear hbk v0
  have hinfo : (P.info? (ρ.t 5)).map (·.size) = some 1 := by
    obtain ⟨i0, hi, -, hz1, -⟩ := info_parts L.i5
    rw [hi]; simp [hz1]
  by_cases hs0 : n = 0
  · -- NO BYTE: there is always room; nothing is written
    subst hs0
    clear hab
    have hc0 : cs = [] := List.eq_nil_of_length_eq_zero hn
    subst hc0
    have hce : ∀ d dLen dCap W, (Builtin.copy_ #[(ρ.t 37), (ρ.t 37)] (ρ.t 3) #[.slice d dLen dCap, .slice (some a) 0 c]).run P W = .ok (goInt 0) W := fun d dLen dCap W => run_copy_none W (ρ.t 37) (ρ.t 37) (ρ.t 3) (ρ.t 5) d (some a) dLen dCap 0 c L.t37 hinfo (by simp)
    have hT : ∀ W, LibA.IsBuffer T R (ρ.t 5) B b q bs W → Calls P (ρ.f 251) #[.pointer (some ⟨b, q, none⟩), .int .i64 0] W _ := fun W hW => kr_tryGrow { L with } T R B b q 0 bs W hW
    go_enter L.f180, Body.n180_ntmps ρ
    go_wp2_with (go_at_fn (ρ.f 251); refine (hT _ ?_).mono ?_)
    · exact h'
    rintro e W1 (⟨rfl, xs, hxl, hI, hbel, hk, hg⟩ | ⟨rfl, rfl, hnr⟩)
    · clear h' c2 f2 hT
      have hx0 : xs = [] := List.eq_nil_of_length_eq_zero hxl
      subst hx0
      rw [List.append_nil] at hI
      obtain ⟨-, lr2, hc⟩ := hI.cases
      rcases hc with ⟨hb0, hbk2⟩ | ⟨g, cap, cur, hbk2, -, -, hnc, hcm, -, -, -⟩
      · subst hb0
        have d0 : W1.cell? ⟨b, q, none⟩ = some (.slice none 0 0) := hbk2.c0
        go_wp2
        all_goals (go_ret2; first | exact ⟨rfl, hI, hbel0.trans hbel, (hk0.trans hk).kept⟩ | exact ⟨by simp, by simpa using hI, hbel0.trans hbel, (hk0.trans hk).kept⟩)
      · have d0 : W1.cell? ⟨b, q, none⟩ = some (.slice (some ⟨g, 0, none⟩) bs.length cap) := hbk2.c0
        unfold maxLen at hcm
        go_wp2
        all_goals (go_ret2; first | exact ⟨rfl, hI, hbel0.trans hbel, (hk0.trans hk).kept⟩ | exact ⟨by simp, by simpa using hI, hbel0.trans hbel, (hk0.trans hk).kept⟩)
    · obtain ⟨_, _, _, _, hlt⟩ := hnr
      omega
  · replace hab := hab.resolve_left hs0
    go_enter L.f180, Body.n180_ntmps ρ
    go_wp2_with (go_at_fn (ρ.f 251); refine (kr_tryGrow { L with } T R B b q n bs _ ?_).mono ?_)
    · exact h'
    rintro e W1 (⟨rfl, xs, hxl, hI, hbel, hk, hg⟩ | ⟨rfl, rfl, hnr⟩)
    · -- THERE WAS ROOM
      have hbelW := hbel0.trans hbel
      have hkW := hk0.trans hk
      have hgW := Lib.grownBy_trans hg0 hg
      clear h' hbel hbel0 hBw' c2 f2
      obtain ⟨-, lr2, hc⟩ := hI.cases
      rcases hc with ⟨hnil, -⟩ | ⟨g, cap, cur, hbk2, hBg, hg, hnc, hcm, hcs, htk, hgb⟩
      · exact absurd (congrArg List.length hnil) (by rw [List.length_append, hxl, List.length_nil]; omega)
      · rw [List.length_append, hxl] at hbk2 hnc htk
        have d0 : W1.cell? ⟨b, q, none⟩ = some (.slice (some ⟨g, 0, none⟩) (bs.length + n) cap) := hbk2.c0
        have hne : ¬ cap = bs.length := by omega
        have hsrc1 : ∀ j v, cs[j]? = some v → W1.cell? (a.add j) = some v := fun j v hj => hgW.cell (hsrc j v hj) (by rw [Lib.block_add]; exact fun e => hab (Option.some.inj e))
        have hcp := run_copy_row (P := P) W1 (ρ.t 37) (ρ.t 37) (ρ.t 3) (ρ.t 5) g bs.length n (cap - bs.length) a n c cur (ρ.t 5) cs L.t37 hinfo hg (by rw [hn]; exact (Nat.min_self n).symm) hsrc1 (by rw [hn]; omega) h1c
        rw [hn] at hcp
        have hcm' := hcm
        unfold maxLen at hcm'
        go_wp2
        go_ret2
        obtain ⟨r1, r2⟩ := LibA.written_end (news := cs) (l := bs.length) hB (by rw [hn]; exact hbk2) hBg hg hcm hcs hgb (by rw [hn]; exact hnc)
        have e1 : cur.toList.take bs.length = bs := by
          have h3 := congrArg (List.take bs.length) htk
          rwa [List.take_take, Nat.min_eq_left (Nat.le_add_right _ _), List.take_left' rfl] at h3
        rw [e1, hn] at r1 r2
        refine ⟨rfl, ?_, ?_, hkW.setRow d0 hgb _⟩ <;> rw [e1, ← List.append_assoc]
        · exact r1
        · exact hbelW.trans r2
    · -- THERE WAS NONE: grow
      go_wp2_with (go_at_fn (ρ.f 252); refine (kr_grow { L with } T R B b q n bs _ ?_ ?_ ?_ h1 hlim).mono ?_)
      · exact h'
      · exact hnr
      · exact hBw'
      rintro e W1 ⟨rfl, xs, hxl, hI, hbel, hk, hg⟩
      have hbelW := hbel0.trans hbel
      have hkW := hk0.trans hk
      have hgW := Lib.grownBy_trans hg0 hg
      clear h' hbel hbel0 hBw' c2 f2 hnr
      obtain ⟨-, lr2, hc⟩ := hI.cases
      rcases hc with ⟨hnil, -⟩ | ⟨g, cap, cur, hbk2, hBg, hg, hnc, hcm, hcs, htk, hgb⟩
      · exact absurd (congrArg List.length hnil) (by rw [List.length_append, hxl, List.length_nil]; omega)
      · rw [List.length_append, hxl] at hbk2 hnc htk
        have d0 : W1.cell? ⟨b, q, none⟩ = some (.slice (some ⟨g, 0, none⟩) (bs.length + n) cap) := hbk2.c0
        have hne : ¬ cap = bs.length := by omega
        have hsrc1 : ∀ j v, cs[j]? = some v → W1.cell? (a.add j) = some v := fun j v hj => hgW.cell (hsrc j v hj) (by rw [Lib.block_add]; exact fun e => hab (Option.some.inj e))
        have hcp := run_copy_row (P := P) W1 (ρ.t 37) (ρ.t 37) (ρ.t 3) (ρ.t 5) g bs.length n (cap - bs.length) a n c cur (ρ.t 5) cs L.t37 hinfo hg (by rw [hn]; exact (Nat.min_self n).symm) hsrc1 (by rw [hn]; omega) h1c
        rw [hn] at hcp
        have hcm' := hcm
        unfold maxLen at hcm'
        go_wp2
        go_ret2
        obtain ⟨r1, r2⟩ := LibA.written_end (news := cs) (l := bs.length) hB (by rw [hn]; exact hbk2) hBg hg hcm hcs hgb (by rw [hn]; exact hnc)
        have e1 : cur.toList.take bs.length = bs := by
          have h3 := congrArg (List.take bs.length) htk
          rwa [List.take_take, Nat.min_eq_left (Nat.le_add_right _ _), List.take_left' rfl] at h3
        rw [e1, hn] at r1 r2
        refine ⟨rfl, ?_, ?_, hkW.setRow d0 hgb _⟩ <;> rw [e1, ← List.append_assoc]
        · exact r1
        · exact hbelW.trans r2

set_option maxHeartbeats 6400000 in
set_option maxRecDepth 100000 in
theorem kr_WriteString (L : LaysM.n178 P ρ) (T : TypeId) (R : Nat → Option Value) (B b q : Nat) (bs : List Value) (s : ByteArray) (w : World) (h : LibA.IsBuffer T R (ρ.t 5) B b q bs w) (hBw : B ≤ w.heap.size) (h1 : ∀ v ∈ bs, v.oneCell' = true) (hlim : bs.length + s.size ≤ 140737488355328) :
    Calls P (ρ.f 178) #[.pointer (some ⟨b, q, none⟩), .string s] w fun e w' => e = .returned (.tuple #[.int .i64 s.size, .nilIface]) ∧ LibA.IsBuffer T R (ρ.t 5) B b q (bs ++ Lib.byteCells s.data.toList) w' ∧ Below B w w' ∧ KP b q w w' := by
  have mixed := L.mixed
  have t5 := L.t5; have a5 := L.a5; have z5 := L.z5; have v5 := L.v5
  have t130 := L.t130; have a130 := L.a130; have z130 := L.z130; have v130 := L.v130
  have t9 := L.t9; have a9 := L.a9; have z9 := L.z9; have v9 := L.v9
  have t3 := L.t3; have a3 := L.a3; have z3 := L.z3; have v3 := L.v3
  have t75 := L.t75; have a75 := L.a75; have z75 := L.z75; have v75 := L.v75
  have t0 := L.t0; have a0 := L.a0; have z0 := L.z0; have v0 := L.v0
  have t93 := L.t93; have u93 := run_underlying L.t93; have a93 := L.a93; have z93 := L.z93; have v93 := L.v93
  have t91 := L.t91; have a91 := L.a91; have z91 := L.z91; have v91 := L.v91
  have t131 := L.t131; have a131 := L.a131; have z131 := L.z131; have v131 := L.v131
  have t4 := L.t4; have a4 := L.a4; have z4 := L.z4; have v4 := L.v4
  have t37 := L.t37; have a37 := L.a37; have z37 := L.z37; have v37 := L.v37
  have e251 : ∀ args w, (callFunc (ρ.f 251) args).run P w = .ok (.enter (ρ.f 251) args) w := enters_of L.f251 (by kernel_rfl) rfl
  have e252 : ∀ args w, (callFunc (ρ.f 252) args).run P w = .ok (.enter (ρ.f 252) args) w := enters_of L.f252 (by kernel_rfl) rfl
  obtain ⟨hB, v0, lr, hbk, -, -⟩ := id h
  have c2 : w.cell? ⟨b, q + 2, none⟩ = some (.int .i8 lr) := hbk.c2
  have f2 : w.frozen? ⟨b, q + 2, none⟩ = false := hbk.f (q + 2)
  have h' := h.setLast 0
  have hbel0 : Below B w (w.setCell ⟨b, q + 2, none⟩ (.int .i8 0)) := (Below.refl B w).setCell (p := ⟨b, q + 2, none⟩) hB _
  have hk0 : KL b q w (w.setCell ⟨b, q + 2, none⟩ (.int .i8 0)) := KL.last w b q c2
  have hBw' : B ≤ (w.setCell ⟨b, q + 2, none⟩ (.int .i8 0)).heap.size := by simpa [World.setCell] using hBw
  clear hbk v0
  have hinfo : (P.info? (ρ.t 5)).map (·.size) = some 1 := by
    obtain ⟨i0, hi, -, hz1, -⟩ := info_parts L.i5
    rw [hi]; simp [hz1]
  by_cases hs0 : s.size = 0
  · -- THE EMPTY STRING: there is always room; nothing is written
    have hce : ∀ d dLen dCap W, (Builtin.copy_ #[(ρ.t 37), (ρ.t 9)] (ρ.t 3) #[.slice d dLen dCap, .string s]).run P W = .ok (goInt 0) W := fun d dLen dCap W => Lib.run_copy_empty_string W (ρ.t 37) (ρ.t 9) (ρ.t 3) (ρ.t 5) d dLen dCap s L.t37 (by rw [hinfo]; rfl) hs0
    have hbc : Lib.byteCells s.data.toList = [] := List.eq_nil_of_length_eq_zero (by rw [Lib.byteCells_length, ← Lib.size_eq]; exact hs0)
    have hT : ∀ W, LibA.IsBuffer T R (ρ.t 5) B b q bs W → Calls P (ρ.f 251) #[.pointer (some ⟨b, q, none⟩), .int .i64 0] W _ := fun W hW => kr_tryGrow { L with } T R B b q 0 bs W hW
    go_enter L.f178, Body.n178_ntmps ρ
    go_wp2_with (go_at_fn (ρ.f 251); refine (hT _ ?_).mono ?_)
    · exact h'
    rintro e W1 (⟨rfl, xs, hxl, hI, hbel, hk, -⟩ | ⟨rfl, rfl, hnr⟩)
    · clear h' c2 f2 hT
      have hx0 : xs = [] := List.eq_nil_of_length_eq_zero hxl
      subst hx0
      rw [List.append_nil] at hI
      obtain ⟨-, lr2, hc⟩ := hI.cases
      rcases hc with ⟨hb0, hbk2⟩ | ⟨g, cap, cur, hbk2, -, -, hnc, hcm, -, -, -⟩
      · subst hb0
        have d0 : W1.cell? ⟨b, q, none⟩ = some (.slice none 0 0) := hbk2.c0
        go_wp2
        all_goals (go_ret2; first | exact ⟨rfl, hI, hbel0.trans hbel, (hk0.trans hk).kept⟩ | exact ⟨by simp [hs0], by simpa [hbc] using hI, hbel0.trans hbel, (hk0.trans hk).kept⟩)
      · have d0 : W1.cell? ⟨b, q, none⟩ = some (.slice (some ⟨g, 0, none⟩) bs.length cap) := hbk2.c0
        unfold maxLen at hcm
        go_wp2
        all_goals (go_ret2; first | exact ⟨rfl, hI, hbel0.trans hbel, (hk0.trans hk).kept⟩ | exact ⟨by simp [hs0], by simpa [hbc] using hI, hbel0.trans hbel, (hk0.trans hk).kept⟩)
    · obtain ⟨_, _, _, _, hlt⟩ := hnr
      omega
  · go_enter L.f178, Body.n178_ntmps ρ
    go_wp2_with (go_at_fn (ρ.f 251); refine (kr_tryGrow { L with } T R B b q s.size bs _ ?_).mono ?_)
    · exact h'
    rintro e W1 (⟨rfl, xs, hxl, hI, hbel, hk, -⟩ | ⟨rfl, rfl, hnr⟩)
    · -- THERE WAS ROOM
      have hbelW := hbel0.trans hbel
      have hkW := hk0.trans hk
      clear h' hbel hbel0 hBw' c2 f2
      obtain ⟨-, lr2, hc⟩ := hI.cases
      rcases hc with ⟨hnil, -⟩ | ⟨g, cap, cur, hbk2, hBg, hg, hnc, hcm, hcs, htk, hgb⟩
      · exact absurd (congrArg List.length hnil) (by rw [List.length_append, hxl, List.length_nil]; omega)
      · rw [List.length_append, hxl] at hbk2 hnc htk
        have d0 : W1.cell? ⟨b, q, none⟩ = some (.slice (some ⟨g, 0, none⟩) (bs.length + s.size) cap) := hbk2.c0
        have hne : ¬ cap = bs.length := by omega
        have hcp := Lib.run_copy_row_string (P := P) W1 (ρ.t 37) (ρ.t 9) (ρ.t 3) (ρ.t 5) g bs.length s.size (cap - bs.length) s cur (ρ.t 5) L.t37 hinfo hg (Nat.le_refl _) (by omega)
        have hcm' := hcm
        unfold maxLen at hcm'
        go_wp2
        go_ret2
        have hnl : (Lib.byteCells s.data.toList).length = s.size := by rw [Lib.byteCells_length, ← Lib.size_eq]
        obtain ⟨r1, r2⟩ := LibA.written_end (news := Lib.byteCells s.data.toList) (l := bs.length) hB (by rw [hnl]; exact hbk2) hBg hg hcm hcs hgb (by rw [hnl]; exact hnc)
        have e1 : cur.toList.take bs.length = bs := by
          have h3 := congrArg (List.take bs.length) htk
          rwa [List.take_take, Nat.min_eq_left (Nat.le_add_right _ _), List.take_left' rfl] at h3
        rw [e1, hnl] at r1 r2
        refine ⟨rfl, ?_, ?_, hkW.setRow d0 hgb _⟩ <;> rw [e1, ← List.append_assoc]
        · exact r1
        · exact hbelW.trans r2
    · -- THERE WAS NONE: grow
      go_wp2_with (go_at_fn (ρ.f 252); refine (kr_grow { L with } T R B b q s.size bs _ ?_ ?_ ?_ h1 hlim).mono ?_)
      · exact h'
      · exact hnr
      · exact hBw'
      rintro e W1 ⟨rfl, xs, hxl, hI, hbel, hk, -⟩
      have hbelW := hbel0.trans hbel
      have hkW := hk0.trans hk
      clear h' hbel hbel0 hBw' c2 f2 hnr
      obtain ⟨-, lr2, hc⟩ := hI.cases
      rcases hc with ⟨hnil, -⟩ | ⟨g, cap, cur, hbk2, hBg, hg, hnc, hcm, hcs, htk, hgb⟩
      · exact absurd (congrArg List.length hnil) (by rw [List.length_append, hxl, List.length_nil]; omega)
      · rw [List.length_append, hxl] at hbk2 hnc htk
        have d0 : W1.cell? ⟨b, q, none⟩ = some (.slice (some ⟨g, 0, none⟩) (bs.length + s.size) cap) := hbk2.c0
        have hne : ¬ cap = bs.length := by omega
        have hcp := Lib.run_copy_row_string (P := P) W1 (ρ.t 37) (ρ.t 9) (ρ.t 3) (ρ.t 5) g bs.length s.size (cap - bs.length) s cur (ρ.t 5) L.t37 hinfo hg (Nat.le_refl _) (by omega)
        have hcm' := hcm
        unfold maxLen at hcm'
        go_wp2
        go_ret2
        have hnl : (Lib.byteCells s.data.toList).length = s.size := by rw [Lib.byteCells_length, ← Lib.size_eq]
        obtain ⟨r1, r2⟩ := LibA.written_end (news := Lib.byteCells s.data.toList) (l := bs.length) hB (by rw [hnl]; exact hbk2) hBg hg hcm hcs hgb (by rw [hnl]; exact hnc)
        have e1 : cur.toList.take bs.length = bs := by
          have h3 := congrArg (List.take bs.length) htk
          rwa [List.take_take, Nat.min_eq_left (Nat.le_add_right _ _), List.take_left' rfl] at h3
        rw [e1, hnl] at r1 r2
        refine ⟨rfl, ?_, ?_, hkW.setRow d0 hgb _⟩ <;> rw [e1, ← List.append_assoc]
        · exact r1
        · exact hbelW.trans r2

theorem kr_WriteNil (L : LaysM.n180 P ρ) (T : TypeId) (R : Nat → Option Value) (B b q : Nat) (bs : List Value) (w : World) (h : LibA.IsBuffer T R (ρ.t 5) B b q bs w) (hBw : B ≤ w.heap.size) (h1 : ∀ v ∈ bs, v.oneCell' = true) :
    Calls P (ρ.f 180) #[.pointer (some ⟨b, q, none⟩), .slice none 0 0] w fun e w' => e = .returned (.tuple #[.int .i64 0, .nilIface]) ∧ LibA.IsBuffer T R (ρ.t 5) B b q bs w' ∧ Below B w w' ∧ KP b q w w' := by
  have mixed := L.mixed
  have t5 := L.t5; have a5 := L.a5; have z5 := L.z5; have v5 := L.v5
  have t130 := L.t130; have a130 := L.a130; have z130 := L.z130; have v130 := L.v130
  have t37 := L.t37; have a37 := L.a37; have z37 := L.z37; have v37 := L.v37
  have t3 := L.t3; have a3 := L.a3; have z3 := L.z3; have v3 := L.v3
  have t75 := L.t75; have a75 := L.a75; have z75 := L.z75; have v75 := L.v75
  have t0 := L.t0; have a0 := L.a0; have z0 := L.z0; have v0 := L.v0
  have t93 := L.t93; have u93 := run_underlying L.t93; have a93 := L.a93; have z93 := L.z93; have v93 := L.v93
  have t91 := L.t91; have a91 := L.a91; have z91 := L.z91; have v91 := L.v91
  have t131 := L.t131; have a131 := L.a131; have z131 := L.z131; have v131 := L.v131
  have t4 := L.t4; have a4 := L.a4; have z4 := L.z4; have v4 := L.v4
  have e251 : ∀ args w, (callFunc (ρ.f 251) args).run P w = .ok (.enter (ρ.f 251) args) w := enters_of L.f251 (by kernel_rfl) rfl
  have e252 : ∀ args w, (callFunc (ρ.f 252) args).run P w = .ok (.enter (ρ.f 252) args) w := enters_of L.f252 (by kernel_rfl) rfl
  obtain ⟨hB, v0, lr, hbk, -, -⟩ := id h
  have c2 : w.cell? ⟨b, q + 2, none⟩ = some (.int .i8 lr) := hbk.c2
  have f2 : w.frozen? ⟨b, q + 2, none⟩ = false := hbk.f (q + 2)
  have h' := h.setLast 0
  have hbel0 : Below B w (w.setCell ⟨b, q + 2, none⟩ (.int .i8 0)) := (Below.refl B w).setCell (p := ⟨b, q + 2, none⟩) hB _
  have hk0 : KL b q w (w.setCell ⟨b, q + 2, none⟩ (.int .i8 0)) := KL.last w b q c2
  have hg0 : w.grownBy (w.setCell ⟨b, q + 2, none⟩ (.int .i8 0)) (some b) := Lib.grownBy_setCell w b (q + 2) _
  have hBw' : B ≤ (w.setCell ⟨b, q + 2, none⟩ (.int .i8 0)).heap.size := by simpa [World.setCell] using hBw
  clear hbk v0
  have hinfo : (P.info? (ρ.t 5)).map (·.size) = some 1 := by
    obtain ⟨i0, hi, -, hz1, -⟩ := info_parts L.i5
    rw [hi]; simp [hz1]
  have hce : ∀ d dLen dCap W, (Builtin.copy_ #[(ρ.t 37), (ρ.t 37)] (ρ.t 3) #[.slice d dLen dCap, .slice none 0 0]).run P W = .ok (goInt 0) W := fun d dLen dCap W => run_copy_none W (ρ.t 37) (ρ.t 37) (ρ.t 3) (ρ.t 5) d none dLen dCap 0 0 L.t37 hinfo (by simp)
  have hT : ∀ W, LibA.IsBuffer T R (ρ.t 5) B b q bs W → Calls P (ρ.f 251) #[.pointer (some ⟨b, q, none⟩), .int .i64 0] W _ := fun W hW => kr_tryGrow { L with } T R B b q 0 bs W hW
  go_enter L.f180, Body.n180_ntmps ρ
  go_wp2_with (go_at_fn (ρ.f 251); refine (hT _ ?_).mono ?_)
  · exact h'
  rintro e W1 (⟨rfl, xs, hxl, hI, hbel, hk, hg⟩ | ⟨rfl, rfl, hnr⟩)
  · clear h' c2 f2 hT
    have hx0 : xs = [] := List.eq_nil_of_length_eq_zero hxl
    subst hx0
    rw [List.append_nil] at hI
    obtain ⟨-, lr2, hc⟩ := hI.cases
    rcases hc with ⟨hb0, hbk2⟩ | ⟨g, cap, cur, hbk2, -, -, hnc, hcm, -, -, -⟩
    · subst hb0
      have d0 : W1.cell? ⟨b, q, none⟩ = some (.slice none 0 0) := hbk2.c0
      go_wp2
      all_goals (go_ret2; first | exact ⟨rfl, hI, hbel0.trans hbel, (hk0.trans hk).kept⟩ | exact ⟨by simp, by simpa using hI, hbel0.trans hbel, (hk0.trans hk).kept⟩)
    · have d0 : W1.cell? ⟨b, q, none⟩ = some (.slice (some ⟨g, 0, none⟩) bs.length cap) := hbk2.c0
      unfold maxLen at hcm
      go_wp2
      all_goals (go_ret2; first | exact ⟨rfl, hI, hbel0.trans hbel, (hk0.trans hk).kept⟩ | exact ⟨by simp, by simpa using hI, hbel0.trans hbel, (hk0.trans hk).kept⟩)
  · obtain ⟨_, _, _, _, hlt⟩ := hnr
    omega

end Go.Proofs.YthpkehhghcpolaaDoor

namespace Go.Proofs.YthpkehhghcpolaaDoor
open Go.Shelf Go.RowKit Go.Proofs
set_option linter.unusedVariables false
set_option linter.unusedSimpArgs false

/-- What stands at a buffer's first cell, and what it holds. -/
inductive BSt (H : AH) (e : TypeId) : AV → List T → Prop
  | nil : BSt H e (.t .nils) []
  | row (k gen : Nat) (l : List T) (hk : H[k]? = some (.arr e 1 false gen (.ts l))) (h1 : 1 ≤ l.length) : BSt H e (.sl k gen 0 l.length) l

/-- The memory behind a write. -/
def bnext (H : AH) (e b o : Nat) (cells : List AV) (p : List T) : AV → AH
  | .sl k gen _ _ => match H[k]? with
    | some (.arr _ _ _ _ (.ts l)) => (H.set k (.arr e 1 false (gen + 2 - gen % 2) (.ts (l ++ p)))).set b (.box (put3 (.sl k (gen + 2 - gen % 2) 0 (l ++ p).length) (.t (.int .i64 0)) (.t (.int .i8 0)) o cells))
    | _ => H
  | _ => (H ++ [Blk.arr e 1 false 2 (.ts p)]).set b (.box (put3 (.sl H.length 2 0 p.length) (.t (.int .i64 0)) (.t (.int .i8 0)) o cells))

theorem rowed_app {w : World} {c : Cx} {H : AH} {l p : List T} {bs cs : List Value} {arr : Array Value} (h1 : Rowed w c H 1 (.ts l) bs.toArray) (h2 : Rowed w c H 1 (.ts p) cs.toArray) (hl : bs.length = l.length)
    (ha : ∀ (i : Nat) v, (bs ++ cs)[i]? = some v → arr[i]? = some v) : Rowed w c H 1 (.ts (l ++ p)) arr := by
  refine Rowed.ts.2 fun i x hi => ?_
  by_cases hlt : i < l.length
  · rw [List.getElem?_append_left hlt] at hi
    obtain ⟨q1, q2⟩ := Rowed.ts.1 h1 i x hi
    refine ⟨q1, fun j y hj => ?_⟩
    obtain ⟨v, a1, a2⟩ := q2 j y hj
    have hj0 : j = 0 := by have := lt_of_getElem? hj; omega
    subst hj0
    refine ⟨v, ?_, a2⟩
    simp only [Nat.mul_one, Nat.add_zero] at a1 ⊢
    exact ha i v (by rw [List.getElem?_append_left (by omega)]; simpa using a1)
  · rw [List.getElem?_append_right (by omega)] at hi
    obtain ⟨q1, q2⟩ := Rowed.ts.1 h2 _ x hi
    refine ⟨q1, fun j y hj => ?_⟩
    obtain ⟨v, a1, a2⟩ := q2 j y hj
    have hj0 : j = 0 := by have := lt_of_getElem? hj; omega
    subst hj0
    refine ⟨v, ?_, a2⟩
    simp only [Nat.mul_one, Nat.add_zero] at a1 ⊢
    exact ha i v (by rw [List.getElem?_append_right (by omega), hl]; simpa using a1)

/-- The buffer, as the kit tells of it. -/
theorem open_buf {w : World} {c : Cx} {H : AH} {B b cb o e : Nat} {cells : List AV} {x y z : AV} {l : List T} (hs : HS w c H B) (hb : H[b]? = some (.box cells)) (hcb : c.G b = some cb)
    (h3 : get3 o cells = some (x, y, z)) (hy : isZ y = true) (hz : isLr z = true) (hx : BSt H e x l) :
    ∃ arr Tb bs, w.heap[cb]? = some (.cells arr Tb (0, 0)) ∧ arr.size = cells.length ∧ LibA.IsBuffer Tb (fun i => arr[i]?) e B cb o bs w ∧ bs.length = l.length ∧ (∀ v ∈ bs, v.oneCell' = true) ∧ Rowed w c H 1 (.ts l) bs.toArray ∧
      (∀ g n cp, w.cell? ⟨cb, o, none⟩ = some (.slice (some ⟨g, 0, none⟩) n cp) → ∃ k gen, x = .sl k gen 0 l.length ∧ c.G k = some g) := by
  obtain ⟨arr, Tb, h1, h2, h4⟩ := hs.box b cb cells hb hcb
  obtain ⟨q0, q1, q2⟩ := get3_spec h3
  have at_ : ∀ {i : Nat} {u : AV}, cells[i]? = some u → ∃ v, arr[i]? = some v ∧ RA w c H u v := fun {i u} hu => by
    have hlt : i < arr.size := by rw [h2]; exact lt_of_getElem? hu
    exact ⟨arr[i], Array.getElem?_eq_getElem hlt, (h4 i u _ hu (Array.getElem?_eq_getElem hlt)).2.1⟩
  obtain ⟨v0, a0, r0⟩ := at_ q0
  obtain ⟨v1, a1, r1⟩ := at_ q1
  obtain ⟨v2, a2, r2⟩ := at_ q2
  have e1 : v1 = .int .i64 0 := by
    unfold isZ at hy
    split at hy
    · rename_i n
      split at hy
      · rename_i k
        have := Nat.eq_of_beq_eq_true hy
        subst this
        cases r1 with | t _ _ r1 => cases r1; rfl
      · cases hy
    · cases hy
  obtain ⟨lr, e2⟩ : ∃ lr, v2 = .int .i8 lr := by
    unfold isLr at hz
    split at hz
    · rename_i n
      cases r2 with | t _ _ r2 => cases r2; exact ⟨_, rfl⟩
    · cases hz
  subst e1 e2
  have hcell : w.cell? ⟨cb, o, none⟩ = some v0 := by rw [Lib.cell_of_heap h1]; exact a0
  have three : LibA.Three w cb o Tb (fun i => arr[i]?) v0 (.int .i64 0) (.int .i8 lr) := ⟨arr, h1, a0, a1, a2, fun i _ => rfl⟩
  have hB := (hs.base b cb hcb).1
  cases hx with
  | nil =>
    cases r0 with | t _ _ r0 =>
    cases r0
    refine ⟨arr, Tb, [], h1, h2, LibA.zero_isBuffer hB three, rfl, by simp, Rowed.ts.2 (by simp), fun g n cp h => ?_⟩
    rw [hcell] at h; cases h
  | row k gen l hk hl =>
    cases r0 with | sl _ _ _ _ _ blk hbk hm hv =>
    rw [hk] at hbk; cases hbk
    obtain ⟨-, hm⟩ := hm.2 rfl
    rcases hm with ⟨hf, _⟩ | ⟨_, hf, _⟩ | ⟨hne, g, cap, off, hg, rfl, hsz, hcap, hmx, hoff, hoff0⟩
    · cases hf
    · simp only [Sq.length] at hf; omega
    · obtain rfl := hoff0 rfl
      obtain ⟨cur, cap', k1, k2, k3, k4, k5⟩ := hs.arr k g e 1 false gen _ hk hg
      have hrs : rowSize w g = cur.size := by unfold rowSize; rw [k1]
      rw [hrs] at hsz
      have hgb : g ≠ cb := fun h => by
        have := hs.inj k b g hg (by rw [h]; exact hcb)
        subst this
        rw [hk] at hb; cases hb
      have hcs : cur.size = cap := by simpa using hsz.symm
      have hcap2 : l.length ≤ cap := hcap
      have hll : (cur.toList.take l.length).length = l.length := by
        have e : cur.toList.length = cur.size := Array.length_toList
        rw [List.length_take, e]; omega
      have hone : ∀ i, i < l.length → ∃ v, cur[i]? = some v ∧ v.oneCell' = true := fun i hi => by
        obtain ⟨b1, b2⟩ := Rowed.ts.1 k5 i _ (List.getElem?_eq_getElem hi)
        have hj : (l[i]).cells[0]? = some ((l[i]).cells[0]'(by omega)) := List.getElem?_eq_getElem _
        obtain ⟨v, c1, _, _, c4⟩ := b2 0 _ hj
        exact ⟨v, by simpa using c1, c4⟩
      refine ⟨arr, Tb, cur.toList.take l.length, h1, h2, LibA.isBuffer_mk hB three (hs.base k g hg).1 k1 hcap (by simpa using hmx) (by simpa using hsz.symm) hgb, hll, fun v hv => ?_, Rowed.ts.2 fun i x hi => ?_, fun g' n cp h => ?_⟩
      · obtain ⟨i, hi⟩ := List.getElem?_of_mem hv
        have hlt := lt_of_getElem? hi
        rw [hll] at hlt
        obtain ⟨v', c1, c2⟩ := hone i hlt
        rw [List.getElem?_take_of_lt hlt] at hi
        simp only [Array.getElem?_toList] at hi
        rw [hi] at c1; cases c1; exact c2
      · obtain ⟨b1, b2⟩ := Rowed.ts.1 k5 i x hi
        refine ⟨b1, fun j y hj => ?_⟩
        obtain ⟨v, c1, c2⟩ := b2 j y hj
        have hj0 : j = 0 := by have := lt_of_getElem? hj; omega
        subst hj0
        refine ⟨v, ?_, c2⟩
        simp only [Nat.mul_one, Nat.add_zero] at c1 ⊢
        rw [List.getElem?_toArray, List.getElem?_take_of_lt (lt_of_getElem? hi)]
        simpa using c1
      · rw [hcell] at h; cases h
        exact ⟨k, gen, rfl, hg⟩

/-- Behind a write the walk's memory is as told. -/
theorem shut_buf {w w' : World} {c : Cx} {H : AH} {B b cb o e : Nat} {cells : List AV} {x y z : AV} {l p : List T} {arr : Array Value} {Tb : TypeId} {bs cs : List Value} (hs : HS w c H B) (hb : H[b]? = some (.box cells)) (hcb : c.G b = some cb)
    (h3 : get3 o cells = some (x, y, z)) (hx : BSt H e x l) (h1 : w.heap[cb]? = some (.cells arr Tb (0, 0))) (h2 : arr.size = cells.length)
    (hbl : bs.length = l.length) (hbr : Rowed w c H 1 (.ts l) bs.toArray)
    (hrow : ∀ g n cp, w.cell? ⟨cb, o, none⟩ = some (.slice (some ⟨g, 0, none⟩) n cp) → ∃ k gen, x = .sl k gen 0 l.length ∧ c.G k = some g)
    (hI : LibA.IsBuffer Tb (fun i => arr[i]?) e B cb o (bs ++ cs) w') (hkp : KP cb o w w') (hcl : cs.length = p.length) (hcr : Rowed w c H 1 (.ts p) cs.toArray) (hn : x = .t .nils → 1 ≤ p.length) :
    ∃ c', Ev w c H w' c' (bnext H e b o cells p x) ∧ HS w' c' (bnext H e b o cells p x) B := by
  obtain ⟨hB, lr, hc⟩ := hI.cases
  have hpos : 1 ≤ (l ++ p).length := by
    rw [List.length_append]
    cases hx with
    | nil => have := hn rfl; omega
    | row => omega
  have hlen : (bs ++ cs).length = (l ++ p).length := by simp only [List.length_append, hbl, hcl]
  rcases hc with ⟨h0, _⟩ | ⟨g, cap, cur, hbk, hBg, hg, hnc, hcm, hcz, htk, hgb⟩
  · have := congrArg List.length h0
    rw [hlen] at this; simp only [List.length_nil] at this; omega
  obtain ⟨cs', hc', k0, k1, k2, kr⟩ := hbk
  have hlr : (Value.int .i8 lr) = .int .i8 0 := by
    have := hkp.2.2.1
    rw [Lib.cell_of_heap hc', k2] at this
    exact Option.some.inj this
  rw [hlr] at k2
  have hcz' : cs'.size = arr.size := by
    have h3' := get3_spec h3
    have ho := lt_of_getElem? h3'.2.2
    have hlt : o + 2 < cs'.size := (Array.getElem?_eq_some_iff.1 k2).1
    have a1 : cs'[arr.size]? = none := by rw [kr _ (.inr (by omega))]; exact Array.getElem?_eq_none (by omega)
    have a2 := Array.getElem?_eq_none_iff.1 a1
    rcases Nat.lt_or_ge cs'.size arr.size with h | h
    · have := kr cs'.size (.inr (by omega))
      simp only at this
      rw [Array.getElem?_eq_none (Nat.le_refl _), Array.getElem?_eq_getElem h] at this
      cases this
    · omega
  have hget : ∀ (i : Nat) v, (bs ++ cs)[i]? = some v → cur[i]? = some v := fun i v hv => by
    have hlt := lt_of_getElem? hv
    rw [← htk, List.getElem?_take_of_lt hlt] at hv
    simpa using hv
  have hall := rowed_app hbr hcr hbl hget
  have hcell' : w'.cell? ⟨cb, o, none⟩ = some (.slice (some ⟨g, 0, none⟩) (bs ++ cs).length cap) := by rw [Lib.cell_of_heap hc']; exact k0
  rw [hlen] at k0 hnc
  cases hx with
  | row k gen l hk hl =>
    have hgk : c.G k = some g ∨ w.heap.size ≤ g := by
      rcases hkp.2.1 g _ _ hcell' with ⟨l1, c1, h⟩ | h
      · obtain ⟨k', gen', he, hg'⟩ := hrow g l1 c1 h
        cases he
        exact .inl hg'
      · exact .inr h
    have hGk : c.G k ≠ none := by
      intro hnone
      have h3' := get3_spec h3
      obtain ⟨arr0, e0, b1, b2, b3⟩ := hs.box b cb cells hb hcb
      rw [h1] at b1; cases b1
      have hlt : o < arr.size := by rw [h2]; exact lt_of_getElem? h3'.1
      have hra := (b3 o _ _ h3'.1 (Array.getElem?_eq_getElem hlt)).2.1
      cases hra with | sl _ _ _ _ _ blk hbk hm hv =>
      rw [hk] at hbk; cases hbk
      obtain ⟨-, hm⟩ := hm.2 rfl
      rcases hm with ⟨hf, _⟩ | ⟨_, hf, _⟩ | ⟨hne, g', cap', off, hg', _⟩
      · cases hf
      · simp only [Sq.length] at hf; omega
      · rw [hnone] at hg'; cases hg'
    have := two_turn (gen' := gen + 2 - gen % 2) (lr := 0) hs hb hcb hk h3 (fun _ => hGk) h1 hkp.1 (fun i hi h4 h5 => hkp.2.2.2 i hi h4 (fun g' l1 c1 h => ?_)) hc' hcz' k0 k1 k2 kr hg hBg hgb hgk hcz hnc hcm (by simp) hpos (by omega) (by omega) hall
    · simp only [bnext, hk]
      exact ⟨_, this⟩
    · rintro rfl
      obtain ⟨k', gen', he, hg'⟩ := hrow _ l1 c1 h
      cases he
      exact h5 hg'
  | nil =>
    have hfresh : w.heap.size ≤ g := by
      rcases hkp.2.1 g _ _ hcell' with ⟨l1, c1, h⟩ | h
      · obtain ⟨k', gen', he, hg'⟩ := hrow g l1 c1 h
        cases he
      · exact h
    obtain ⟨ev0, hs0⟩ := new_none hs (.arr e 1 false 0 (.ts []))
    have hb0 : (H ++ [.arr e 1 false 0 (.ts [])])[b]? = some (.box cells) := by rw [getElem?_snoc_lt (lt_of_getElem? hb)]; exact hb
    obtain ⟨ev1, hs1⟩ := two_turn (gen := 0) (gen' := 2) (lr := 0) (l' := p) (l := []) hs0 hb0 hcb getElem?_snoc_eq h3 (fun h => (h rfl).elim) h1 hkp.1 (fun i hi h4 h5 => hkp.2.2.2 i hi h4 (fun g' l1 c1 h => by
      obtain ⟨k', gen', he, hg'⟩ := hrow g' l1 c1 h
      cases he)) hc' hcz' k0 k1 k2 kr hg hBg hgb (.inr hfresh) hcz hnc hcm (by simp) hpos (by omega) (by omega) (by
        have := hall.ev ev0
        simpa using this)
    have hset : (H ++ [Blk.arr e 1 false 0 (.ts [])]).set H.length (.arr e 1 false 2 (.ts p)) = H ++ [Blk.arr e 1 false 2 (.ts p)] := by
      rw [List.set_append_right _ _ (Nat.le_refl _)]; simp
    rw [hset] at ev1 hs1
    exact ⟨_, ev0.trans ev1, hs1⟩

end Go.Proofs.YthpkehhghcpolaaDoor

namespace Go.Proofs.YthpkehhghcpolaaDoor
open Go.Shelf Go.RowKit Go.Proofs
set_option linter.unusedVariables false
set_option linter.unusedSimpArgs false

/-- What is written, over a walk's memory as a list. -/
def srcH (e : TypeId) (H : AH) : AV → Option (List T) := srcG (fun k => H[k]?) e

theorem src_ok {w : World} {c : Cx} {H : AH} {B e : Nat} {xa : AV} {v : Value} {p : List T} (hs : HS w c H B) (hx : RA w c H xa v) (h : srcH e H xa = some p) :
    ∃ (a : Addr) (cp : Nat) (cs : List Value), v = .slice (some a) p.length cp ∧ cs.length = p.length ∧ (∀ (j : Nat) u, cs[j]? = some u → w.cell? (a.add j) = some u) ∧ (∀ u ∈ cs, u.oneCell' = true) ∧
      (∀ b cb cells, H[b]? = some (.box cells) → c.G b = some cb → p.length = 0 ∨ a.block ≠ cb) ∧ Rowed w c H 1 (.ts p) cs.toArray := by
  have vecc : RT w (c.M H) (.vec 1 p) v → ∃ (a : Addr) (cp : Nat) (cs : List Value), v = .slice (some a) p.length cp ∧ cs.length = p.length ∧ (∀ (j : Nat) u, cs[j]? = some u → w.cell? (a.add j) = some u) ∧ (∀ u ∈ cs, u.oneCell' = true) ∧
      (∀ b cb cells, H[b]? = some (.box cells) → c.G b = some cb → p.length = 0 ∨ a.block ≠ cb) ∧ Rowed w c H 1 (.ts p) cs.toArray := fun hx => by
    clear h
    cases hx with | vec _ _ b off cap sp vals hM hcap hsp hss hc hr =>
    have hss' : ∀ (i : Nat) x, (Sq.ts p).get i = some x → x.cells.length = 1 := fun i x hi => by
      obtain ⟨e, hi', rfl⟩ := ts_get hi
      rw [T.cells_t, List.length_map]; exact hss i e hi'
    obtain ⟨vs, h1, h2, h3, h4⟩ := rows_values (w := w) (Nat.le_refl 1) (R := RA w c H) (l := .ts p) vals hss' (fun i x j y hi hj => by
      obtain ⟨e, hi', rfl⟩ := ts_get hi
      obtain ⟨d, hj', rfl⟩ := t_cell hj
      obtain ⟨k1, k2⟩ := hc i e j d hi' hj'
      have k3 := hr i e j d hi' hj'
      exact ⟨k1, k2, .t _ _ k3, (k3.oneCell k2).1⟩)
    have hvl : vs.length = p.length := by rw [h1, Nat.mul_one]; rfl
    refine ⟨⟨b, off, sp⟩, cap, vs, rfl, hvl, fun j u hj => ?_, h3, fun b' cb cells hb' hcb => ?_, fun i x hi => ⟨hss' i x hi, fun j y hj => ?_⟩⟩
    · have hlt := lt_of_getElem? hj
      obtain rfl := hsp (fun e => by subst e; rw [hvl] at hlt; simp at hlt)
      exact h2 j u hj
    · by_cases hp : p = []
      · left; simp [hp]
      · right
        rintro rfl
        exact hM hp (by omega) (.inr ⟨b', _, hb', rfl, hcb⟩)
    · obtain ⟨v, q1, q2⟩ := h4 i x hi j y hj
      exact ⟨v, by simpa using q1, q2⟩
  unfold srcH srcG at h
  split at h
  · cases h
    cases hx with | t _ _ hx => exact vecc hx
  · split at h
    · cases h
    · cases h
      cases hx with | t _ _ hx =>
      rcases vecd_cases hx with ⟨h0, _⟩ | hx
      · cases h0
      · exact vecc hx
  · rename_i k g i n
    dsimp only at h
    obtain ⟨e', z, gen, l, hk, hcc, rfl⟩ : ∃ e' z gen l, H[k]? = some (.arr e' 1 z gen (.ts l)) ∧ (Nat.beq e e' && Nat.beq g gen && Nat.ble (Nat.add i n) l.length && (!z || Nat.ble 1 l.length)) = true ∧ (l.drop i).take n = p := by
      cases hk : H[k]? with
      | none => rw [hk] at h; cases h
      | some blk0 =>
        rw [hk] at h
        cases blk0 with
        | arr e' s' z' gen lq =>
          cases lq with
          | vs lq => simp at h
          | ts lq =>
            by_cases hs1 : s' = 1
            · subst hs1
              refine ⟨e', z', gen, lq, rfl, ?_⟩
              simp only at h
              cases hc : Nat.beq e e' && Nat.beq g gen && Nat.ble (Nat.add i n) lq.length && (!z' || Nat.ble 1 lq.length) with
              | true => rw [hc] at h; exact ⟨rfl, Option.some.inj h⟩
              | false => rw [hc] at h; cases h
            · simp [hs1] at h
        | _ => cases h
    clear h
    by_cases htriv : True
    · by_cases htriv : True
      ·
        simp only [Bool.and_eq_true] at hcc
        have hzz := hcc.2
        replace hcc := hcc.1
        have hg := Nat.eq_of_beq_eq_true hcc.1.2
        have hle := Nat.le_of_ble_eq_true hcc.2
        have hle : i + n ≤ l.length := hle
        cases hx with | sl _ _ _ _ _ blk hb hm hv =>
        rw [hk] at hb; cases hb
        obtain ⟨hlen, hm⟩ := hm.2 hg
        have hpl : ((l.drop i).take n).length = n := by rw [List.length_take, List.length_drop]; omega
        have hnil : n = 0 → Rowed w c H 1 (.ts ((l.drop i).take n)) (#[] : Array Value) := fun h => by subst h; exact Rowed.ts.2 (by simp)
        rw [hpl]
        rcases hm with ⟨h1, h1', _⟩ | ⟨_, h2, ad, rfl⟩ | ⟨hne, cb, cap, off, hgk, rfl, hsz, hcap, hmx, hoff, hoff0⟩
        · subst h1
          have : l.length = 0 := h1'
          rw [this] at hzz
          cases hzz
        · have hn0 : n = 0 := by have h2 : l.length = 0 := h2; omega
          subst hn0
          exact ⟨ad, 0, [], rfl, rfl, by simp, by simp, fun _ _ _ _ _ => .inl rfl, hnil rfl⟩
        · by_cases hn0 : n = 0
          · subst hn0
            exact ⟨_, cap, [], rfl, rfl, by simp, by simp, fun _ _ _ _ _ => .inl rfl, hnil rfl⟩
          · obtain ⟨arr, cap', h1, h2, h3, h4, h5⟩ := hs.arr k cb e' 1 z gen _ hk hgk
            have hoff' : off = i * 1 := hoff.resolve_left (by omega)
            have hget : ∀ (k : Nat) x, ((l.drop i).take n)[k]? = some x → l[i + k]? = some x := fun k x hk => by
              rw [List.getElem?_take] at hk
              split at hk
              · rw [List.getElem?_drop] at hk; exact hk
              · cases hk
            have hss : ∀ (k : Nat) x, (Sq.ts ((l.drop i).take n)).get k = some x → x.cells.length = 1 := fun k x hk => by
              obtain ⟨e, hk', rfl⟩ := ts_get hk
              rw [T.cells_t, List.length_map]; exact (Rowed.ts.1 h5 _ e (hget k e hk')).1
            obtain ⟨vs, k1, k2, k3, k4⟩ := rows_values (w := w) (Nat.le_refl 1) (R := RA w c H) (l := .ts ((l.drop i).take n)) (b := cb) (off := off) (fun k j => arr.getD ((i + k) * 1 + j) undef) hss (fun k x j y hk hj => by
              obtain ⟨e, hk', rfl⟩ := ts_get hk
              obtain ⟨d, hj', rfl⟩ := t_cell hj
              obtain ⟨u, hu, q1, q2, q3⟩ := (Rowed.ts.1 h5 _ e (hget k e hk')).2 j d hj'
              refine ⟨?_, q1, by simp only [Array.getD_eq_getD_getElem?, hu, Option.getD_some]; exact .t _ _ q2, by simp only [Array.getD_eq_getD_getElem?, hu, Option.getD_some]; exact q3⟩
              rw [cell_row h1, show off + k * 1 + j = (i + k) * 1 + j by rw [hoff', Nat.add_mul], hu, Array.getD_eq_getD_getElem?, hu]
              rfl)
            refine ⟨_, cap, vs, rfl, by rw [k1, Nat.mul_one]; exact hpl, k2, k3, fun b' cb' cells hb' hcb => .inr ?_, fun i x hi => ⟨hss i x hi, fun j y hj => ?_⟩⟩
            · show cb ≠ cb'
              rintro rfl
              have := hs.inj k b' cb hgk hcb
              subst this
              rw [hk] at hb'; cases hb'
            · obtain ⟨v, q1, q2⟩ := k4 i x hi j y hj
              exact ⟨v, by simpa using q1, q2⟩
      · exact (htriv trivial).elim
    · exact (htriv trivial).elim
  · cases h

section
variable {P : Program} {ρ : Go.Shelf.Ren}

theorem ptr_box {w : World} {c : Cx} {H : AH} {b g i o : Nat} {cells : List AV} {v : Value} (hb : H[b]? = some (.box cells)) (h : RA w c H (.ptr b g i o) v) : ∃ cb, c.G b = some cb ∧ v = .pointer (some ⟨cb, o, none⟩) := by
  cases h with | ptr _ _ _ _ _ blk hb' hm hv =>
  rw [hb] at hb'; cases hb'
  exact hm

theorem two_args {vs : Array Value} (h : vs.size = 2) : ∃ a b, vs = #[a, b] ∧ vs[0]? = some a ∧ vs[1]? = some b := by
  obtain ⟨l⟩ := vs
  match l, h with
  | [a, b], _ => exact ⟨a, b, rfl, rfl, rfl⟩

/-- (*bytes.Buffer).Write. -/
theorem write_calls (L : LaysM.n180 P ρ) {H : AH} {b g i o : Nat} {cells : List AV} {x y z xa : AV} {l p : List T} (hb : H[b]? = some (.box cells)) (h3 : get3 o cells = some (x, y, z)) (hy : isZ y = true) (hz : isLr z = true)
    (hx : BSt H (ρ.t 5) x l) (hp : srcH (ρ.t 5) H xa = some p) (hn : x = .t .nils → 1 ≤ p.length) (hlim : l.length + p.length ≤ 140737488355328) :
    CallS P (ρ.f 180) [.ptr b g i o, xa] H (fun r H' => r = .tup [.t (.int .i64 (p.length : Int)), .t .nili] ∧ H' = bnext H (ρ.t 5) b o cells p x) := by
  intro B c w vs hs hsz hargs
  obtain ⟨v0, v1, rfl, e0, e1⟩ := two_args hsz
  obtain ⟨cb, hcb, rfl⟩ := ptr_box hb (hargs 0 _ _ rfl e0)
  obtain ⟨a, cp, cs, rfl, s1, s2, s3, s4, s5⟩ := src_ok hs (hargs 1 _ _ rfl e1) hp
  obtain ⟨arr, Tb, bs, o1, o2, o3, o4, o5, o6, o7⟩ := open_buf hs hb hcb h3 hy hz hx
  refine .inl ⟨⟨_, L.f180, by kernel_rfl, rfl⟩, (kr_Write L Tb (fun i => arr[i]?) B cb o bs cs a p.length cp w o3 hs.hB o5 s1 (s4 b cb cells hb hcb) s2 s3 (by omega)).mono ?_⟩
  rintro e w' ⟨rfl, hI, hbel, hkp⟩
  obtain ⟨c', ev, hs'⟩ := shut_buf hs hb hcb h3 hx o1 o2 o4 o6 o7 hI hkp s1 s5 hn
  refine ⟨_, c', _, _, rfl, .tup _ _ rfl fun i x v hi hv => ?_, hs', ev, hbel, rfl, rfl⟩
  match i, hi, hv with
  | 0, hi, hv => cases hi; cases hv; exact .t _ _ (.int _ _)
  | 1, hi, hv => cases hi; cases hv; exact .t _ _ .nili
  | i + 2, hi, hv => simp at hi

/-- (*bytes.Buffer).Write of a nil slice. -/
theorem write_nil_val (L : LaysM.n180 P ρ) {H : AH} {b g i o : Nat} {cells : List AV} {x y z xa : AV} {l : List T} (hb : H[b]? = some (.box cells)) (h3 : get3 o cells = some (x, y, z)) (hy : isZ y = true) (hz : isLr z = true)
    (hx : BSt H (ρ.t 5) x l) (hn : x ≠ .t .nils) (hxa : ∀ w c v, RA w c H xa v → v = .slice none 0 0) :
    CallS P (ρ.f 180) [.ptr b g i o, xa] H (fun r H' => r = .tup [.t (.int .i64 0), .t .nili] ∧ H' = bnext H (ρ.t 5) b o cells [] x) := by
  intro B c w vs hs hsz hargs
  obtain ⟨v0, v1, rfl, e0, e1⟩ := two_args hsz
  obtain ⟨cb, hcb, rfl⟩ := ptr_box hb (hargs 0 _ _ rfl e0)
  obtain rfl : v1 = .slice none 0 0 := hxa _ _ _ (hargs 1 _ _ rfl e1)
  obtain ⟨arr, Tb, bs, o1, o2, o3, o4, o5, o6, o7⟩ := open_buf hs hb hcb h3 hy hz hx
  refine .inl ⟨⟨_, L.f180, by kernel_rfl, rfl⟩, (kr_WriteNil L Tb (fun i => arr[i]?) B cb o bs w o3 hs.hB o5).mono ?_⟩
  rintro e w' ⟨rfl, hI, hbel, hkp⟩
  obtain ⟨c', ev, hs'⟩ := shut_buf (p := []) (cs := []) hs hb hcb h3 hx o1 o2 o4 o6 o7 (by simpa using hI) hkp rfl (Rowed.ts.2 fun i x hi => by simp at hi) (fun h => (hn h).elim)
  refine ⟨_, c', _, _, rfl, .tup _ _ rfl fun i x v hi hv => ?_, hs', ev, hbel, rfl, rfl⟩
  match i, hi, hv with
  | 0, hi, hv => cases hi; cases hv; exact .t _ _ (.int _ _)
  | 1, hi, hv => cases hi; cases hv; exact .t _ _ .nili
  | i + 2, hi, hv => simp at hi

/-- The same, of a row of the walk's own that is nil. -/
theorem write_nilrow_calls (L : LaysM.n180 P ρ) {H : AH} {b g i o k e s gen : Nat} {cells : List AV} {x y z : AV} {l : List T} (hb : H[b]? = some (.box cells)) (h3 : get3 o cells = some (x, y, z)) (hy : isZ y = true) (hz : isLr z = true)
    (hx : BSt H (ρ.t 5) x l) (hn : x ≠ .t .nils) (hk : H[k]? = some (.arr e s true gen (.ts []))) :
    CallS P (ρ.f 180) [.ptr b g i o, .sl k gen 0 0] H (fun r H' => r = .tup [.t (.int .i64 0), .t .nili] ∧ H' = bnext H (ρ.t 5) b o cells [] x) :=
  write_nil_val L hb h3 hy hz hx hn fun w c v h => by
    cases h with | sl _ _ _ _ _ blk hb hm hv =>
    rw [hk] at hb; cases hb
    rcases (hm.2 rfl).2 with ⟨_, _, h⟩ | ⟨h, _⟩ | ⟨h, _⟩
    · exact h
    · cases h
    · exact (h ⟨rfl, rfl⟩).elim

theorem bytes_rowed {w : World} {c : Cx} {H : AH} (bs : List UInt8) : Rowed w c H 1 (.ts (bs.map fun c => T.int .u8 (c.toNat : Int))) (Lib.byteCells bs).toArray := by
  refine Rowed.ts.2 fun i x hi => ?_
  obtain ⟨b, hb, rfl⟩ := bytes_cells hi
  refine ⟨rfl, fun j y hj => ?_⟩
  cases j with
  | zero => simp [T.cells] at hj; subst hj; exact ⟨.int .u8 b.toNat, by simp [Lib.byteCells, hb], rfl, .int _ _, rfl⟩
  | succ j => simp [T.cells] at hj

/-- (*bytes.Buffer).WriteString. -/
theorem writeString_calls (L : LaysM.n178 P ρ) {H : AH} {b g i o : Nat} {cells : List AV} {x y z : AV} {l : List T} {s : List UInt8} (hb : H[b]? = some (.box cells)) (h3 : get3 o cells = some (x, y, z)) (hy : isZ y = true) (hz : isLr z = true)
    (hx : BSt H (ρ.t 5) x l) (hn : x = .t .nils → 1 ≤ s.length) (hlim : l.length + s.length ≤ 140737488355328) :
    CallS P (ρ.f 178) [.ptr b g i o, .t (.str s)] H (fun r H' => r = .tup [.t (.int .i64 (s.length : Int)), .t .nili] ∧ H' = bnext H (ρ.t 5) b o cells (s.map fun c => .int .u8 (c.toNat : Int)) x) := by
  intro B c w vs hs hsz hargs
  obtain ⟨v0, v1, rfl, e0, e1⟩ := two_args hsz
  obtain ⟨cb, hcb, rfl⟩ := ptr_box hb (hargs 0 _ _ rfl e0)
  obtain ⟨ba, rfl, hba⟩ : ∃ ba : ByteArray, v1 = .string ba ∧ ba.data.toList = s := by
    have := hargs 1 _ _ rfl e1
    cases this with | t _ _ h => cases h with | str ba => exact ⟨ba, rfl, rfl⟩
  have hsl : ba.size = s.length := by rw [← hba]; rfl
  obtain ⟨arr, Tb, bs, o1, o2, o3, o4, o5, o6, o7⟩ := open_buf hs hb hcb h3 hy hz hx
  refine .inl ⟨⟨_, L.f178, by kernel_rfl, rfl⟩, (kr_WriteString L Tb (fun i => arr[i]?) B cb o bs ba w o3 hs.hB o5 (by omega)).mono ?_⟩
  rintro e w' ⟨rfl, hI, hbel, hkp⟩
  rw [hba] at hI
  obtain ⟨c', ev, hs'⟩ := shut_buf (p := s.map fun c => .int .u8 (c.toNat : Int)) hs hb hcb h3 hx o1 o2 o4 o6 o7 hI hkp (by simp [Lib.byteCells]) (bytes_rowed s) (by simpa using hn)
  rw [hsl]
  refine ⟨_, c', _, _, rfl, .tup _ _ rfl fun i x v hi hv => ?_, hs', ev, hbel, rfl, rfl⟩
  match i, hi, hv with
  | 0, hi, hv => cases hi; cases hv; exact .t _ _ (.int _ _)
  | 1, hi, hv => cases hi; cases hv; exact .t _ _ .nili
  | i + 2, hi, hv => simp at hi

end
end Go.Proofs.YthpkehhghcpolaaDoor

namespace Go.Proofs.YthpkehhghcpolaaDoor
open Go.Shelf Go.RowKit Go.Proofs
set_option linter.unusedVariables false
set_option linter.unusedSimpArgs false

theorem HA.at {h : NH} {H : AH} (ha : HA h H) (i : Nat) : h.hp.get i = H[i]? := congrFun ha.get i

variable {P : Program}

end Go.Proofs.YthpkehhghcpolaaDoor
