/-
  The writers of bytes.Buffer, with a frame: no block that was there turns, but the buffer's own and its row's.
-/
import Derived.BigCall
import Derived.BigGuard
import Derived.Deep.Draws
import Derived.Deep.RegionWith
import Derived.Laws.IdiomCopy
import Derived.Laws.MakeOwn
import Derived.Lib.Buffer
import Derived.Lib.BufferAt
import Derived.Lib.BufferGrow
import Derived.Lib.BufferKept
import Derived.Lib.BufferMore
import Derived.Lib.BufferOwn
import Derived.Lib.BufferSrc
import Derived.Lib.BufferWrite
import Derived.Lib.ByteType
import Derived.Lib.Hide
import Derived.Lib.Walk
import Derived.RegionTactic
import Derived.Shelf.Bytes.GrowSlice
import Derived.Shelf.Bytes.LenAt
import Derived.Shelf.Bytes.TryGrowAt
import Derived.Shelf.LaysM
import Derived.Shelf.RegionOpenPlain
import Derived.WalkKit
namespace Go.Proofs.YthpkehhghcpolaaDoor
open Go.Shelf Go.RowKit Go.Proofs
set_option linter.unusedVariables false
set_option linter.unusedSimpArgs false
variable {P : Program} {ρ : Ren}

/-- The row at that place is the one that it was, or is new. -/
def RowSame (b q : Nat) (w w' : World) : Prop :=
  ∀ g l c, w'.cell? ⟨b, q, none⟩ = some (.slice (some ⟨g, 0, none⟩) l c) → (∃ l' c', w.cell? ⟨b, q, none⟩ = some (.slice (some ⟨g, 0, none⟩) l' c')) ∨ w.heap.size ≤ g

/-- The buffer's block alone has turned; its row is the one that it was, or is new; the last reading's mark stays. -/
def KR (b q : Nat) (w w' : World) : Prop :=
  w.grownBy w' (some b) ∧ RowSame b q w w' ∧ w'.cell? ⟨b, q + 2, none⟩ = w.cell? ⟨b, q + 2, none⟩

/-- The same, and the mark is 0. -/
def KL (b q : Nat) (w w' : World) : Prop :=
  w.grownBy w' (some b) ∧ RowSame b q w w' ∧ w'.cell? ⟨b, q + 2, none⟩ = some (.int .i8 0)

/-- Nothing that was there has turned but the buffer's block and its row. -/
def KP (b q : Nat) (w w' : World) : Prop :=
  w.heap.size ≤ w'.heap.size ∧ RowSame b q w w' ∧ w'.cell? ⟨b, q + 2, none⟩ = some (.int .i8 0) ∧
  ∀ k, k < w.heap.size → k ≠ b → (∀ g l c, w.cell? ⟨b, q, none⟩ = some (.slice (some ⟨g, 0, none⟩) l c) → k ≠ g) → w'.heap[k]? = w.heap[k]?

theorem RowSame.trans {b q : Nat} {a w w' : World} (h : RowSame b q a w) (hs : a.heap.size ≤ w.heap.size) (k : RowSame b q w w') : RowSame b q a w' := by
  intro g l c hc
  rcases k g l c hc with ⟨l', c', h1⟩ | h1
  · exact h g l' c' h1
  · exact .inr (Nat.le_trans hs h1)

theorem KL.trans {b q : Nat} {a w w' : World} (h : KL b q a w) (k : KR b q w w') : KL b q a w' :=
  ⟨Lib.grownBy_trans h.1 k.1, h.2.1.trans h.1.size k.2.1, k.2.2.trans h.2.2⟩

theorem KL.kept {b q : Nat} {w w' : World} (h : KL b q w w') : KP b q w w' :=
  ⟨h.1.size, h.2.1, h.2.2, fun k hk hb _ => h.1.block k hk (fun e => hb (Option.some.inj e))⟩

theorem KL.last (w : World) (b q : Nat) {u : Value} (hu : w.cell? ⟨b, q + 2, none⟩ = some u) : KL b q w (w.setCell ⟨b, q + 2, none⟩ (.int .i8 0)) := by
  refine ⟨Lib.grownBy_setCell w b (q + 2) _, fun g l c hc => .inl ⟨l, c, ?_⟩, World.cell?_setCell_same _ _ _ hu⟩
  rw [← hc]
  exact (World.cell?_setCell_other _ _ _ _ (by simp)).symm

theorem KR.fresh {b q g l c : Nat} {w w' : World} (h : w.grownBy w' (some b)) (hc : w'.cell? ⟨b, q, none⟩ = some (.slice (some ⟨g, 0, none⟩) l c)) (hg : w.heap.size ≤ g)
    (h2 : w'.cell? ⟨b, q + 2, none⟩ = w.cell? ⟨b, q + 2, none⟩) : KR b q w w' := by
  refine ⟨h, fun g' l' c' hc' => .inr ?_, h2⟩
  rw [hc] at hc'
  cases hc'
  exact hg

theorem KR.reslice {b q l c : Nat} {a : Option Addr} {w : World} (hc : w.cell? ⟨b, q, none⟩ = some (.slice a l c)) (l' c' : Nat) : KR b q w (w.setCell ⟨b, q, none⟩ (.slice a l' c')) := by
  refine ⟨Lib.grownBy_setCell w b q _, fun g l2 c2 h2 => .inl ⟨l, c, ?_⟩, World.cell?_setCell_other _ _ _ _ (by simp)⟩
  rw [World.cell?_setCell_same _ _ _ hc] at h2
  cases h2
  exact hc

theorem KL.rowKept {b q g l c : Nat} {w w' w2 : World} (h : KL b q w w') (d : w'.cell? ⟨b, q, none⟩ = some (.slice (some ⟨g, 0, none⟩) l c)) (hgb : g ≠ b)
    (h2 : w'.heap.size ≤ w2.heap.size ∧ ∀ k, k ≠ g → w2.heap[k]? = w'.heap[k]?) : KP b q w w2 := by
  have hb : ∀ i, w2.cell? ⟨b, i, none⟩ = w'.cell? ⟨b, i, none⟩ := fun i => World.cell?_of_block (h2.2 b (Ne.symm hgb))
  refine ⟨Nat.le_trans h.1.size h2.1, fun g' l' c' hc => h.2.1 g' l' c' ((hb q).symm.trans hc), (hb (q + 2)).trans h.2.2, fun k hk hb hr => ?_⟩
  refine (h2.2 k ?_).trans (h.1.block k hk (fun e => hb (Option.some.inj e)))
  rcases h.2.1 g l c d with ⟨l', c', h1⟩ | h1
  · exact hr g l' c' h1
  · omega

theorem KL.setRow {b q g l c : Nat} {w w' : World} (h : KL b q w w') (d : w'.cell? ⟨b, q, none⟩ = some (.slice (some ⟨g, 0, none⟩) l c)) (hgb : g ≠ b) (X : Array Value) : KP b q w (w'.setRow g X) :=
  h.rowKept d hgb ⟨by simp, fun k hk => setRow_other _ _ _ _ (fun e => hk (by omega))⟩

theorem KL.setRowCell {b q g l c : Nat} {w w' : World} (h : KL b q w w') (d : w'.cell? ⟨b, q, none⟩ = some (.slice (some ⟨g, 0, none⟩) l c)) (hgb : g ≠ b) (i : Nat) (v : Value) : KP b q w (w'.setCell ⟨g, i, none⟩ v) :=
  h.rowKept d hgb ⟨by simp [World.setCell], fun k hk => Below.heap_setCell _ _ _ _ (fun e => hk (by simpa using e))⟩



set_option maxHeartbeats 12800000 in
set_option maxRecDepth 100000 in
theorem kr_grow_row0 (L : LaysM.n252 P ρ) (T : TypeId) (R : Nat → Option Value) (B b q g cap n : Nat) (lr : Int) (cur : Array Value) (bs : List Value) (w : World) (hB : B ≤ b) (hBw : B ≤ w.heap.size)
    (hbk : LibA.Three w b q T R (.slice (some ⟨g, 0, none⟩) 0 cap) (.int .i64 0) (.int .i8 lr))
    (hl : bs.length = 0) (hBg : B ≤ g) (hg : w.heap[g]? = some (.cells cur (ρ.t 5) (0, 0))) (hlc : 0 ≤ cap) (hcm : cap ≤ maxLen) (hcs : cur.size = cap) (htake : cur.toList.take 0 = bs) (hgb : g ≠ b)
    (h1 : ∀ v ∈ bs, v.oneCell' = true) (hn : 1 ≤ n) (hroom : cap - 0 < n) (hlim : 0 + n ≤ 140737488355328) :
    Calls P (ρ.f 252) #[.pointer (some ⟨b, q, none⟩), .int .i64 n] w fun e w' => e = .returned (.int .i64 0) ∧ ∃ xs, xs.length = n ∧ LibA.IsBuffer T R (ρ.t 5) B b q (bs ++ xs) w' ∧ Below B w w' ∧ KR b q w w' ∧ w.grownBy w' (some b) := by
  have mixed := L.mixed
  have t5 := L.t5; have a5 := L.a5; have z5 := L.z5; have v5 := L.v5
  have t130 := L.t130; have a130 := L.a130; have z130 := L.z130; have v130 := L.v130
  have t3 := L.t3; have a3 := L.a3; have z3 := L.z3; have v3 := L.v3
  have t4 := L.t4; have a4 := L.a4; have z4 := L.z4; have v4 := L.v4
  have t0 := L.t0; have a0 := L.a0; have z0 := L.z0; have v0 := L.v0
  have t93 := L.t93; have u93 := run_underlying L.t93; have a93 := L.a93; have z93 := L.z93; have v93 := L.v93
  have t131 := L.t131; have a131 := L.a131; have z131 := L.z131; have v131 := L.v131
  have t37 := L.t37; have a37 := L.a37; have z37 := L.z37; have v37 := L.v37
  have t75 := L.t75; have a75 := L.a75; have z75 := L.z75; have v75 := L.v75
  have e181 : ∀ args w, (callFunc (ρ.f 181) args).run P w = .ok (.enter (ρ.f 181) args) w := enters_of L.f181 (by kernel_rfl) rfl
  have e251 : ∀ args w, (callFunc (ρ.f 251) args).run P w = .ok (.enter (ρ.f 251) args) w := enters_of L.f251 (by kernel_rfl) rfl
  have e290 : ∀ args w, (callFunc (ρ.f 290) args).run P w = .ok (.enter (ρ.f 290) args) w := enters_of L.f290 (by kernel_rfl) rfl
  have hIs : LibA.IsBuffer T R (ρ.t 5) B b q bs w := ⟨hB, _, _, hbk, ⟨by rw [hl, Nat.mul_one], .inr ⟨g, cap, cur, by rw [hl], hBg, hg, by omega, hcm, by omega, by rw [hl, Nat.mul_one]; exact htake⟩⟩, by simp [Value.ownBlock]; exact hgb⟩
  have hnil : ∀ W, (binOp .eql (ρ.t 37) (.slice (some ⟨g, 0, none⟩) 0 cap) (.slice none 0 0)).run P W = .ok (.bool false) W := fun W => Lib.run_eql_slice_some_nil W _ _ _ L.t37
  go_enter L.f252, Body.n252_ntmps ρ
  go_wp2_with (go_at_fn (ρ.f 181); refine (Any.Buffer_Len_at { L with } T R B b q bs _ hIs).mono ?_)
  rintro e W0 ⟨rfl, k, hW0⟩
  rw [hl]
  have hbk0 : LibA.Three W0 b q T R (.slice (some ⟨g, 0, none⟩) 0 cap) (.int .i64 0) (.int .i8 lr) := by rw [hW0]; exact hbk
  have hg0 : W0.heap[g]? = some (.cells cur (ρ.t 5) (0, 0)) := by rw [hW0]; exact hg
  have c0 : W0.cell? ⟨b, q, none⟩ = some (.slice (some ⟨g, 0, none⟩) 0 cap) := hbk0.c0
  have c1 : W0.cell? ⟨b, q + 1, none⟩ = some (.int .i64 0) := hbk0.c1
  have f0 : W0.frozen? ⟨b, q, none⟩ = false := hbk0.f q
  have f1 : W0.frozen? ⟨b, q + 1, none⟩ = false := hbk0.f (q + 1)
  have HW0 := Lib.hid hW0
  clear hW0 hIs
  have hcm' := hcm
  unfold maxLen at hcm'
  go_wp2_with (go_at_fn (ρ.f 251); refine (Any.Buffer_tryGrow_none_at { L with } b q _ 0 cap n _ c0 hlc hcm hroom).mono ?_; rintro e w' ⟨rfl, rfl⟩)
  have hc2 : cap ≤ 140737488355328 := by omega
  have h1' : ∀ v ∈ cur.toList.take 0, v.oneCell' = true := by rw [htake]; exact h1
  have hbW := hbk0.lt
  have hwn : IntKind.i64.wrap (n : Int) = n := by rw [IntKind.wrap_i64]; omega
  go_region_with_o (
      go_at_fn (ρ.f 290)
      refine (Any.bytes_growSlice_row { L with } g 0 cap n cur _ ?_ hcs hlc hn hlim hc2 h1').mono ?_
      exact hg0
      rintro e w2 ⟨cap2, cells, rfl, hN, hcsz, htk, hcap2, hcm2, hbel⟩
      have hbk2 : LibA.Three w2 b q T R (.slice (some ⟨g, 0, none⟩) 0 cap) (.int .i64 0) (.int .i8 lr) := hbk0.of_heap (hbel.block b hbW)
      have d0 : w2.cell? ⟨b, q, none⟩ = some (.slice (some ⟨g, 0, none⟩) 0 cap) := hbk2.c0
      have d1 : w2.cell? ⟨b, q + 1, none⟩ = some (.int .i64 0) := hbk2.c1
      have e0 : w2.frozen? ⟨b, q, none⟩ = false := hbk2.f q
      have e1 : w2.frozen? ⟨b, q + 1, none⟩ = false := hbk2.f (q + 1))
  all_goals (
    go_wp2
    go_ret
    have hsz0 : w'.heap.size = w.heap.size := by rw [HW0.out]; rfl
    have hb0 : Below B w w'.drew := by rw [HW0.out]; exact ⟨rfl, rfl, rfl, Nat.le_refl _, fun _ _ => rfl⟩
    have hg2 : w.grownBy w2 (some b) := Lib.grownBy_below (w := w'.drew) (by rw [HW0.out]; exact ⟨rfl, rfl, rfl, Nat.le_refl _, fun _ _ _ => rfl⟩) hbel
    obtain ⟨xs, q1, q2, q3⟩ := LibA.grow_end (l := 0) (n := n) hB hbk2 hN (by show B ≤ w'.heap.size; omega) (by show w'.heap.size ≠ b; omega) hcsz (htk.trans htake) hcap2 hcm2 (hb0.trans (hbel.mono (by show B ≤ w'.heap.size; omega))) _
    exact ⟨rfl, xs, q1, by simpa using q2, by simpa using q3, KR.fresh (Lib.grownBy_setB (Lib.grownBy_setB (Lib.grownBy_setB hg2 q _) (q + 1) _) q _) (((hbk2.set0 _).set1 _).set0 _).c0 (by show w.heap.size ≤ w'.heap.size; omega) ((((hbk2.set0 _).set1 _).set0 _).c2.trans hbk.c2.symm), Lib.grownBy_setB (Lib.grownBy_setB (Lib.grownBy_setB hg2 q _) (q + 1) _) q _⟩)






set_option maxHeartbeats 12800000 in
set_option maxRecDepth 100000 in
theorem kr_grow_row (L : LaysM.n252 P ρ) (T : TypeId) (R : Nat → Option Value) (B b q g l cap n : Nat) (lr : Int) (cur : Array Value) (bs : List Value) (w : World) (hB : B ≤ b) (hBw : B ≤ w.heap.size)
    (hbk : LibA.Three w b q T R (.slice (some ⟨g, 0, none⟩) l cap) (.int .i64 0) (.int .i8 lr))
    (hl : bs.length = l) (hBg : B ≤ g) (hg : w.heap[g]? = some (.cells cur (ρ.t 5) (0, 0))) (hlc : l ≤ cap) (hcm : cap ≤ maxLen) (hcs : cur.size = cap) (htake : cur.toList.take l = bs) (hgb : g ≠ b)
    (h1 : ∀ v ∈ bs, v.oneCell' = true) (hn : 1 ≤ n) (hroom : cap - l < n) (hlim : l + n ≤ 140737488355328) :
    Calls P (ρ.f 252) #[.pointer (some ⟨b, q, none⟩), .int .i64 n] w fun e w' => e = .returned (.int .i64 l) ∧ ∃ xs, xs.length = n ∧ LibA.IsBuffer T R (ρ.t 5) B b q (bs ++ xs) w' ∧ Below B w w' ∧ KR b q w w' ∧ w.grownBy w' (some b) := by
  have mixed := L.mixed
  have t5 := L.t5; have a5 := L.a5; have z5 := L.z5; have v5 := L.v5
  have t130 := L.t130; have a130 := L.a130; have z130 := L.z130; have v130 := L.v130
  have t3 := L.t3; have a3 := L.a3; have z3 := L.z3; have v3 := L.v3
  have t4 := L.t4; have a4 := L.a4; have z4 := L.z4; have v4 := L.v4
  have t0 := L.t0; have a0 := L.a0; have z0 := L.z0; have v0 := L.v0
  have t93 := L.t93; have u93 := run_underlying L.t93; have a93 := L.a93; have z93 := L.z93; have v93 := L.v93
  have t131 := L.t131; have a131 := L.a131; have z131 := L.z131; have v131 := L.v131
  have t37 := L.t37; have a37 := L.a37; have z37 := L.z37; have v37 := L.v37
  have t75 := L.t75; have a75 := L.a75; have z75 := L.z75; have v75 := L.v75
  have e181 : ∀ args w, (callFunc (ρ.f 181) args).run P w = .ok (.enter (ρ.f 181) args) w := enters_of L.f181 (by kernel_rfl) rfl
  have e251 : ∀ args w, (callFunc (ρ.f 251) args).run P w = .ok (.enter (ρ.f 251) args) w := enters_of L.f251 (by kernel_rfl) rfl
  have e290 : ∀ args w, (callFunc (ρ.f 290) args).run P w = .ok (.enter (ρ.f 290) args) w := enters_of L.f290 (by kernel_rfl) rfl
  by_cases hl0 : l = 0
  · subst hl0
    exact kr_grow_row0 { L with } T R B b q g cap n lr cur bs w hB hBw hbk hl hBg hg hlc hcm hcs htake hgb h1 hn hroom hlim
  have hIs : LibA.IsBuffer T R (ρ.t 5) B b q bs w := ⟨hB, _, _, hbk, ⟨by rw [hl, Nat.mul_one], .inr ⟨g, cap, cur, by rw [hl], hBg, hg, by omega, hcm, by omega, by rw [hl, Nat.mul_one]; exact htake⟩⟩, by simp [Value.ownBlock]; exact hgb⟩
  have hnil : ∀ W, (binOp .eql (ρ.t 37) (.slice (some ⟨g, 0, none⟩) l cap) (.slice none 0 0)).run P W = .ok (.bool false) W := fun W => Lib.run_eql_slice_some_nil W _ _ _ L.t37
  go_enter L.f252, Body.n252_ntmps ρ
  go_wp2_with (go_at_fn (ρ.f 181); refine (Any.Buffer_Len_at { L with } T R B b q bs _ hIs).mono ?_)
  rintro e W0 ⟨rfl, k, hW0⟩
  rw [hl]
  have hbk0 : LibA.Three W0 b q T R (.slice (some ⟨g, 0, none⟩) l cap) (.int .i64 0) (.int .i8 lr) := by rw [hW0]; exact hbk
  have hg0 : W0.heap[g]? = some (.cells cur (ρ.t 5) (0, 0)) := by rw [hW0]; exact hg
  have c0 : W0.cell? ⟨b, q, none⟩ = some (.slice (some ⟨g, 0, none⟩) l cap) := hbk0.c0
  have c1 : W0.cell? ⟨b, q + 1, none⟩ = some (.int .i64 0) := hbk0.c1
  have f0 : W0.frozen? ⟨b, q, none⟩ = false := hbk0.f q
  have f1 : W0.frozen? ⟨b, q + 1, none⟩ = false := hbk0.f (q + 1)
  have HW0 := Lib.hid hW0
  clear hW0 hIs
  have hcm' := hcm
  unfold maxLen at hcm'
  go_wp2_with (go_at_fn (ρ.f 251); refine (Any.Buffer_tryGrow_none_at { L with } b q _ l cap n _ c0 hlc hcm hroom).mono ?_; rintro e w' ⟨rfl, rfl⟩)
  have hc2 : cap ≤ 140737488355328 := by omega
  have h1' : ∀ v ∈ cur.toList.take l, v.oneCell' = true := by rw [htake]; exact h1
  have hbW := hbk0.lt
  have hwn : IntKind.i64.wrap (n : Int) = n := by rw [IntKind.wrap_i64]; omega
  go_region_with_o (
      go_at_fn (ρ.f 290)
      refine (Any.bytes_growSlice_row { L with } g l cap n cur _ ?_ hcs hlc hn hlim hc2 h1').mono ?_
      exact hg0
      rintro e w2 ⟨cap2, cells, rfl, hN, hcsz, htk, hcap2, hcm2, hbel⟩
      have hbk2 : LibA.Three w2 b q T R (.slice (some ⟨g, 0, none⟩) l cap) (.int .i64 0) (.int .i8 lr) := hbk0.of_heap (hbel.block b hbW)
      have d0 : w2.cell? ⟨b, q, none⟩ = some (.slice (some ⟨g, 0, none⟩) l cap) := hbk2.c0
      have d1 : w2.cell? ⟨b, q + 1, none⟩ = some (.int .i64 0) := hbk2.c1
      have e0 : w2.frozen? ⟨b, q, none⟩ = false := hbk2.f q
      have e1 : w2.frozen? ⟨b, q + 1, none⟩ = false := hbk2.f (q + 1))
  all_goals (
    go_wp2
    go_ret
    have hsz0 : w'.heap.size = w.heap.size := by rw [HW0.out]; rfl
    have hb0 : Below B w w'.drew := by rw [HW0.out]; exact ⟨rfl, rfl, rfl, Nat.le_refl _, fun _ _ => rfl⟩
    have hg2 : w.grownBy w2 (some b) := Lib.grownBy_below (w := w'.drew) (by rw [HW0.out]; exact ⟨rfl, rfl, rfl, Nat.le_refl _, fun _ _ _ => rfl⟩) hbel
    obtain ⟨xs, q1, q2, q3⟩ := LibA.grow_end hB hbk2 hN (by show B ≤ w'.heap.size; omega) (by show w'.heap.size ≠ b; omega) hcsz (htk.trans htake) hcap2 hcm2 (hb0.trans (hbel.mono (by show B ≤ w'.heap.size; omega))) _
    exact ⟨rfl, xs, q1, q2, q3, KR.fresh (Lib.grownBy_setB (Lib.grownBy_setB (Lib.grownBy_setB hg2 q _) (q + 1) _) q _) (((hbk2.set0 _).set1 _).set0 _).c0 (by show w.heap.size ≤ w'.heap.size; omega) ((((hbk2.set0 _).set1 _).set0 _).c2.trans hbk.c2.symm), Lib.grownBy_setB (Lib.grownBy_setB (Lib.grownBy_setB hg2 q _) (q + 1) _) q _⟩)






set_option maxHeartbeats 6400000 in
set_option maxRecDepth 100000 in
theorem kr_grow_nil_small (L : LaysM.n252 P ρ) (T : TypeId) (R : Nat → Option Value) (B b q n : Nat) (lr : Int) (w : World) (hB : B ≤ b) (hBw : B ≤ w.heap.size)
    (hbk : LibA.Three w b q T R (.slice none 0 0) (.int .i64 0) (.int .i8 lr)) (hn : 1 ≤ n) (h64 : n ≤ 64) :
    Calls P (ρ.f 252) #[.pointer (some ⟨b, q, none⟩), .int .i64 n] w fun e w' => e = .returned (.int .i64 0) ∧ ∃ xs, xs.length = n ∧ LibA.IsBuffer T R (ρ.t 5) B b q xs w' ∧ Below B w w' ∧ KR b q w w' ∧ w.grownBy w' (some b) := by
  have mixed := L.mixed
  have t5 := L.t5; have a5 := L.a5; have z5 := L.z5; have v5 := L.v5
  have t130 := L.t130; have a130 := L.a130; have z130 := L.z130; have v130 := L.v130
  have t3 := L.t3; have a3 := L.a3; have z3 := L.z3; have v3 := L.v3
  have t4 := L.t4; have a4 := L.a4; have z4 := L.z4; have v4 := L.v4
  have t0 := L.t0; have a0 := L.a0; have z0 := L.z0; have v0 := L.v0
  have t93 := L.t93; have u93 := run_underlying L.t93; have a93 := L.a93; have z93 := L.z93; have v93 := L.v93
  have t131 := L.t131; have a131 := L.a131; have z131 := L.z131; have v131 := L.v131
  have t37 := L.t37; have a37 := L.a37; have z37 := L.z37; have v37 := L.v37
  have t75 := L.t75; have a75 := L.a75; have z75 := L.z75; have v75 := L.v75
  have e181 : ∀ args w, (callFunc (ρ.f 181) args).run P w = .ok (.enter (ρ.f 181) args) w := enters_of L.f181 (by kernel_rfl) rfl
  have e251 : ∀ args w, (callFunc (ρ.f 251) args).run P w = .ok (.enter (ρ.f 251) args) w := enters_of L.f251 (by kernel_rfl) rfl
  obtain ⟨i0, hi, hz0, hz1, hz2⟩ := info_parts L.i5
  obtain ⟨M, hM⟩ : ∃ M, M = madeCells (Value.int .u8 0).cells ((64 : Int).toNat * i0.size) := ⟨_, rfl⟩
  have hMs : M.size = 64 := by rw [hM, size_madeCells, hz1]; rfl
  have hmk : ∀ W : World, (Instr.makeSlice (ρ.t 37) (.int .i64 (n : Int)) (.int .i64 64)).run P W = .ok (.slice (some ⟨W.heap.size, 0, none⟩) n 64) (W.alloc (.cells M (ρ.t 5))) := fun W => by
    have h := run_makeSlice (P := P) W (ρ.t 37) (ρ.t 5) i0 (.int .u8 0) L.t37 hi hz0 .i64 .i64 (n : Int) 64 (by omega) (by omega) (by rw [hz1]; decide) (by rw [hz2]; decide) (by decide)
    rw [← hM] at h
    simpa using h
  clear hM
  have hIs : LibA.IsBuffer T R (ρ.t 5) B b q [] w := ⟨hB, _, _, hbk, World.ownsRow_nil _ _ _ _, by simp [Value.ownBlock]⟩
  have hnil : ∀ W, (binOp .eql (ρ.t 37) (.slice none 0 0) (.slice none 0 0)).run P W = .ok (.bool true) W := fun W => Lib.run_eql_slice_nil_nil W _ _ L.t37
  go_enter L.f252, Body.n252_ntmps ρ
  go_wp2_with (go_at_fn (ρ.f 181); refine (Any.Buffer_Len_at { L with } T R B b q [] _ hIs).mono ?_)
  rintro e W0 ⟨rfl, k, hW0⟩
  have hbk0 : LibA.Three W0 b q T R (.slice none 0 0) (.int .i64 0) (.int .i8 lr) := by rw [hW0]; exact hbk
  have c0 : W0.cell? ⟨b, q, none⟩ = some (.slice none 0 0) := hbk0.c0
  have c1 : W0.cell? ⟨b, q + 1, none⟩ = some (.int .i64 0) := hbk0.c1
  have f0 : W0.frozen? ⟨b, q, none⟩ = false := hbk0.f q
  have f1 : W0.frozen? ⟨b, q + 1, none⟩ = false := hbk0.f (q + 1)
  have hbW0 := hbk0.lt
  have c0a : ∀ o, (W0.alloc o).cell? ⟨b, q, none⟩ = some (.slice none 0 0) := fun o => (World.cell?_of_block (a := ⟨b, q, none⟩) (Below.heap_alloc W0 o b hbW0)).trans c0
  have f0a : ∀ o, (W0.alloc o).frozen? ⟨b, q, none⟩ = false := fun o => (World.frozen?_of_block (a := ⟨b, q, none⟩) (Below.heap_alloc W0 o b hbW0)).trans f0
  have HW0 := Lib.hid hW0
  clear hW0 hIs
  go_wp2_with (go_at_fn (ρ.f 251); refine (Any.Buffer_tryGrow_none_at { L with } b q _ 0 0 n _ c0 (Nat.le_refl _) (Nat.zero_le _) (by omega)).mono ?_; rintro e w' ⟨rfl, rfl⟩)
  go_ret
  have hsz0 : w'.heap.size = w.heap.size := by rw [HW0.out]; rfl
  have hb0 : Below B w w' := by rw [HW0.out]; exact ⟨rfl, rfl, rfl, Nat.le_refl _, fun _ _ => rfl⟩
  have hg0 : w.grownBy w' (some b) := by rw [HW0.out]; exact ⟨rfl, rfl, rfl, Nat.le_refl _, fun _ _ _ => rfl⟩
  obtain ⟨xs, q1, q2, q3⟩ := LibA.grow_small_end hB hbk0 (by omega) hMs h64 (by unfold maxLen; omega) hb0
  exact ⟨rfl, xs, q1, q2, q3, KR.fresh (Lib.grownBy_allocR (Lib.grownBy_setB hg0 q _) _) (((hbk0.set0 _).of_heap (Below.heap_alloc _ _ b (by simpa [World.setCell] using hbk0.lt))).c0) (by omega) ((((hbk0.set0 _).of_heap (Below.heap_alloc _ _ b (by simpa [World.setCell] using hbk0.lt))).c2).trans hbk.c2.symm), Lib.grownBy_allocR (Lib.grownBy_setB hg0 q _) _⟩

set_option maxHeartbeats 12800000 in
set_option maxRecDepth 100000 in
theorem kr_grow_nil_big (L : LaysM.n252 P ρ) (T : TypeId) (R : Nat → Option Value) (B b q n : Nat) (lr : Int) (w : World) (hB : B ≤ b) (hBw : B ≤ w.heap.size)
    (hbk : LibA.Three w b q T R (.slice none 0 0) (.int .i64 0) (.int .i8 lr)) (h64 : 64 < n) (hlim : n ≤ 140737488355328) :
    Calls P (ρ.f 252) #[.pointer (some ⟨b, q, none⟩), .int .i64 n] w fun e w' => e = .returned (.int .i64 0) ∧ ∃ xs, xs.length = n ∧ LibA.IsBuffer T R (ρ.t 5) B b q xs w' ∧ Below B w w' ∧ KR b q w w' ∧ w.grownBy w' (some b) := by
  have mixed := L.mixed
  have t5 := L.t5; have a5 := L.a5; have z5 := L.z5; have v5 := L.v5
  have t130 := L.t130; have a130 := L.a130; have z130 := L.z130; have v130 := L.v130
  have t3 := L.t3; have a3 := L.a3; have z3 := L.z3; have v3 := L.v3
  have t4 := L.t4; have a4 := L.a4; have z4 := L.z4; have v4 := L.v4
  have t0 := L.t0; have a0 := L.a0; have z0 := L.z0; have v0 := L.v0
  have t93 := L.t93; have u93 := run_underlying L.t93; have a93 := L.a93; have z93 := L.z93; have v93 := L.v93
  have t131 := L.t131; have a131 := L.a131; have z131 := L.z131; have v131 := L.v131
  have t37 := L.t37; have a37 := L.a37; have z37 := L.z37; have v37 := L.v37
  have t75 := L.t75; have a75 := L.a75; have z75 := L.z75; have v75 := L.v75
  have e181 : ∀ args w, (callFunc (ρ.f 181) args).run P w = .ok (.enter (ρ.f 181) args) w := enters_of L.f181 (by kernel_rfl) rfl
  have e251 : ∀ args w, (callFunc (ρ.f 251) args).run P w = .ok (.enter (ρ.f 251) args) w := enters_of L.f251 (by kernel_rfl) rfl
  have e290 : ∀ args w, (callFunc (ρ.f 290) args).run P w = .ok (.enter (ρ.f 290) args) w := enters_of L.f290 (by kernel_rfl) rfl
  have hn : 1 ≤ n := by omega
  have hIs : LibA.IsBuffer T R (ρ.t 5) B b q [] w := ⟨hB, _, _, hbk, World.ownsRow_nil _ _ _ _, by simp [Value.ownBlock]⟩
  have hnil : ∀ W, (binOp .eql (ρ.t 37) (.slice none 0 0) (.slice none 0 0)).run P W = .ok (.bool true) W := fun W => Lib.run_eql_slice_nil_nil W _ _ L.t37
  go_enter L.f252, Body.n252_ntmps ρ
  go_wp2_with (go_at_fn (ρ.f 181); refine (Any.Buffer_Len_at { L with } T R B b q [] _ hIs).mono ?_)
  rintro e W0 ⟨rfl, k, hW0⟩
  have hbk0 : LibA.Three W0 b q T R (.slice none 0 0) (.int .i64 0) (.int .i8 lr) := by rw [hW0]; exact hbk
  have c0 : W0.cell? ⟨b, q, none⟩ = some (.slice none 0 0) := hbk0.c0
  have c1 : W0.cell? ⟨b, q + 1, none⟩ = some (.int .i64 0) := hbk0.c1
  have f0 : W0.frozen? ⟨b, q, none⟩ = false := hbk0.f q
  have f1 : W0.frozen? ⟨b, q + 1, none⟩ = false := hbk0.f (q + 1)
  have HW0 := Lib.hid hW0
  clear hW0 hIs
  go_wp2_with (go_at_fn (ρ.f 251); refine (Any.Buffer_tryGrow_none_at { L with } b q _ 0 0 n _ c0 (Nat.le_refl _) (Nat.zero_le _) (by omega)).mono ?_; rintro e w' ⟨rfl, rfl⟩)
  have hbW := hbk0.lt
  have hwn : IntKind.i64.wrap (n : Int) = n := by rw [IntKind.wrap_i64]; omega
  go_region_with_o (
      go_at_fn (ρ.f 290)
      refine (Any.bytes_growSlice_nil { L with } n _ hn hlim).mono ?_
      rintro e w2 ⟨cap2, cells, rfl, hN, hcsz, hcap2, hcm2, hbel⟩
      have hbk2 : LibA.Three w2 b q T R (.slice none 0 0) (.int .i64 0) (.int .i8 lr) := hbk0.of_heap (hbel.block b hbW)
      have d0 : w2.cell? ⟨b, q, none⟩ = some (.slice none 0 0) := hbk2.c0
      have d1 : w2.cell? ⟨b, q + 1, none⟩ = some (.int .i64 0) := hbk2.c1
      have e0 : w2.frozen? ⟨b, q, none⟩ = false := hbk2.f q
      have e1 : w2.frozen? ⟨b, q + 1, none⟩ = false := hbk2.f (q + 1))
  all_goals (
    go_wp2
    go_ret
    have hsz0 : w'.heap.size = w.heap.size := by rw [HW0.out]; rfl
    have hb0 : Below B w w'.drew := by rw [HW0.out]; exact ⟨rfl, rfl, rfl, Nat.le_refl _, fun _ _ => rfl⟩
    have hg2 : w.grownBy w2 (some b) := Lib.grownBy_below (w := w'.drew) (by rw [HW0.out]; exact ⟨rfl, rfl, rfl, Nat.le_refl _, fun _ _ _ => rfl⟩) hbel
    obtain ⟨xs, q1, q2, q3⟩ := LibA.grow_end (l := 0) (n := n) (bs := []) hB hbk2 hN (by show B ≤ w'.heap.size; omega) (by show w'.heap.size ≠ b; omega) hcsz (by simp) (by omega) hcm2 (hb0.trans (hbel.mono (by show B ≤ w'.heap.size; omega))) _
    exact ⟨rfl, xs, q1, by simpa using q2, by simpa using q3, KR.fresh (Lib.grownBy_setB (Lib.grownBy_setB (Lib.grownBy_setB hg2 q _) (q + 1) _) q _) (((hbk2.set0 _).set1 _).set0 _).c0 (by show w.heap.size ≤ w'.heap.size; omega) ((((hbk2.set0 _).set1 _).set0 _).c2.trans hbk.c2.symm), Lib.grownBy_setB (Lib.grownBy_setB (Lib.grownBy_setB hg2 q _) (q + 1) _) q _⟩)






theorem kr_tryGrow (L : LaysM.n251 P ρ) (T : TypeId) (R : Nat → Option Value) (B b q n : Nat) (bs : List Value) (w : World) (h : LibA.IsBuffer T R (ρ.t 5) B b q bs w) :
    Calls P (ρ.f 251) #[.pointer (some ⟨b, q, none⟩), .int .i64 n] w fun e w' =>
      (e = .returned (.tuple #[.int .i64 bs.length, .bool true]) ∧ ∃ xs, xs.length = n ∧ LibA.IsBuffer T R (ρ.t 5) B b q (bs ++ xs) w' ∧ Below B w w' ∧ KR b q w w' ∧ w.grownBy w' (some b)) ∨
      (e = .returned (.tuple #[.int .i64 0, .bool false]) ∧ w' = w ∧ LibA.NoRoom b q n w) := by
  obtain ⟨hB, lr, hc⟩ := h.cases
  rcases hc with ⟨rfl, hbk⟩ | ⟨g, cap, cur, hbk, hBg, hg, hnc, hcm, hcs, htk, hgb⟩
  · have c0 : w.cell? ⟨b, q, none⟩ = some (.slice none 0 0) := hbk.c0
    have f0 := hbk.f q
    by_cases hn : n = 0
    · subst hn
      refine (Any.Buffer_tryGrow_room_at { L with } b q none 0 0 0 w c0 f0 (Nat.le_refl _) (Nat.zero_le _) (Nat.le_refl _)).mono ?_
      rintro e w' ⟨rfl, rfl⟩
      exact Or.inl ⟨rfl, [], rfl, ⟨hB, .slice none 0 0, lr, hbk.set0 _, World.ownsRow_nil _ _ _ _, by simp [Value.ownBlock]⟩, (Below.refl B w).setCell (p := ⟨b, q, none⟩) hB _, KR.reslice c0 _ _, Lib.grownBy_setCell w b q _⟩
    · refine (Any.Buffer_tryGrow_none_at { L with } b q none 0 0 n w c0 (Nat.le_refl _) (Nat.zero_le _) (by omega)).mono ?_
      rintro e w' ⟨rfl, rfl⟩
      exact Or.inr ⟨rfl, rfl, none, 0, 0, c0, by omega⟩
  · have c0 : w.cell? ⟨b, q, none⟩ = some (.slice (some ⟨g, 0, none⟩) bs.length cap) := hbk.c0
    have f0 := hbk.f q
    by_cases hr : n ≤ cap - bs.length
    · refine (Any.Buffer_tryGrow_room_at { L with } b q _ bs.length cap n w c0 f0 hnc hcm hr).mono ?_
      rintro e w' ⟨rfl, rfl⟩
      exact Or.inl ⟨rfl, (LibA.room_end hB hbk hBg hg hcm hcs htk hgb (by omega)).imp fun xs hx => ⟨hx.1, hx.2.1, hx.2.2, KR.reslice c0 _ _, Lib.grownBy_setCell w b q _⟩⟩
    · refine (Any.Buffer_tryGrow_none_at { L with } b q _ bs.length cap n w c0 hnc hcm (by omega)).mono ?_
      rintro e w' ⟨rfl, rfl⟩
      exact Or.inr ⟨rfl, rfl, _, _, _, c0, by omega⟩

theorem kr_grow (L : LaysM.n252 P ρ) (T : TypeId) (R : Nat → Option Value) (B b q n : Nat) (bs : List Value) (w : World) (h : LibA.IsBuffer T R (ρ.t 5) B b q bs w) (hnr : LibA.NoRoom b q n w) (hBw : B ≤ w.heap.size) (h1 : ∀ v ∈ bs, v.oneCell' = true) (hlim : bs.length + n ≤ 140737488355328) :
    Calls P (ρ.f 252) #[.pointer (some ⟨b, q, none⟩), .int .i64 n] w fun e w' => e = .returned (.int .i64 bs.length) ∧ ∃ xs, xs.length = n ∧ LibA.IsBuffer T R (ρ.t 5) B b q (bs ++ xs) w' ∧ Below B w w' ∧ KR b q w w' ∧ w.grownBy w' (some b) := by
  obtain ⟨ao, l, cap0, hc, hlt⟩ := hnr
  obtain ⟨hB, lr, hcs⟩ := h.cases
  rcases hcs with ⟨rfl, hbk⟩ | ⟨g, cap, cur, hbk, hBg, hg, hnc, hcm, hcs, htk, hgb⟩
  · have c0 : w.cell? ⟨b, q, none⟩ = some (.slice none 0 0) := hbk.c0
    rw [c0] at hc
    cases hc
    by_cases h64 : n ≤ 64
    · exact kr_grow_nil_small { L with } T R B b q n lr w hB hBw hbk (by omega) h64
    · exact kr_grow_nil_big { L with } T R B b q n lr w hB hBw hbk (by omega) (by simpa using hlim)
  · have c0 : w.cell? ⟨b, q, none⟩ = some (.slice (some ⟨g, 0, none⟩) bs.length cap) := hbk.c0
    rw [c0] at hc
    cases hc
    exact kr_grow_row { L with } T R B b q g bs.length _ n lr cur bs w hB hBw hbk rfl hBg hg hnc hcm hcs htk hgb h1 (by omega) hlt hlim



end Go.Proofs.YthpkehhghcpolaaDoor
