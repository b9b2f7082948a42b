/-
  The contracts of bytes.Buffer's writers, over a walk's memory.
-/
import Derived.Test.YthpkehhghcpolaaDoorQBc
import Derived.Test.YthpkehhghcpolaaDoorQBw
namespace Go.Proofs.YthpkehhghcpolaaDoor
open Go.Shelf Go.RowKit Go.Proofs
set_option linter.unusedVariables false
set_option linter.unusedSimpArgs false

/-- What stands at a buffer's first cell, and what it holds. -/
inductive BSt (H : AH) (e : TypeId) : AV → List T → Prop
  | nil : BSt H e (.t .nils) []
  | row (k gen : Nat) (l : List T) (hk : H[k]? = some (.arr e 1 false gen (.ts l))) (h1 : 1 ≤ l.length) : BSt H e (.sl k gen 0 l.length) l

/-- The memory behind a write. -/
def bnext (H : AH) (e b o : Nat) (cells : List AV) (p : List T) : AV → AH
  | .sl k gen _ _ => match H[k]? with
    | some (.arr _ _ _ _ (.ts l)) => (H.set k (.arr e 1 false (gen + 2 - gen % 2) (.ts (l ++ p)))).set b (.box (put3 (.sl k (gen + 2 - gen % 2) 0 (l ++ p).length) (.t (.int .i64 0)) (.t (.int .i8 0)) o cells))
    | _ => H
  | _ => (H ++ [Blk.arr e 1 false 2 (.ts p)]).set b (.box (put3 (.sl H.length 2 0 p.length) (.t (.int .i64 0)) (.t (.int .i8 0)) o cells))

theorem rowed_app {w : World} {c : Cx} {H : AH} {l p : List T} {bs cs : List Value} {arr : Array Value} (h1 : Rowed w c H 1 (.ts l) bs.toArray) (h2 : Rowed w c H 1 (.ts p) cs.toArray) (hl : bs.length = l.length)
    (ha : ∀ (i : Nat) v, (bs ++ cs)[i]? = some v → arr[i]? = some v) : Rowed w c H 1 (.ts (l ++ p)) arr := by
  refine Rowed.ts.2 fun i x hi => ?_
  by_cases hlt : i < l.length
  · rw [List.getElem?_append_left hlt] at hi
    obtain ⟨q1, q2⟩ := Rowed.ts.1 h1 i x hi
    refine ⟨q1, fun j y hj => ?_⟩
    obtain ⟨v, a1, a2⟩ := q2 j y hj
    have hj0 : j = 0 := by have := lt_of_getElem? hj; omega
    subst hj0
    refine ⟨v, ?_, a2⟩
    simp only [Nat.mul_one, Nat.add_zero] at a1 ⊢
    exact ha i v (by rw [List.getElem?_append_left (by omega)]; simpa using a1)
  · rw [List.getElem?_append_right (by omega)] at hi
    obtain ⟨q1, q2⟩ := Rowed.ts.1 h2 _ x hi
    refine ⟨q1, fun j y hj => ?_⟩
    obtain ⟨v, a1, a2⟩ := q2 j y hj
    have hj0 : j = 0 := by have := lt_of_getElem? hj; omega
    subst hj0
    refine ⟨v, ?_, a2⟩
    simp only [Nat.mul_one, Nat.add_zero] at a1 ⊢
    exact ha i v (by rw [List.getElem?_append_right (by omega), hl]; simpa using a1)

/-- The buffer, as the kit tells of it. -/
theorem open_buf {w : World} {c : Cx} {H : AH} {B b cb o e : Nat} {cells : List AV} {x y z : AV} {l : List T} (hs : HS w c H B) (hb : H[b]? = some (.box cells)) (hcb : c.G b = some cb)
    (h3 : get3 o cells = some (x, y, z)) (hy : isZ y = true) (hz : isLr z = true) (hx : BSt H e x l) :
    ∃ arr Tb bs, w.heap[cb]? = some (.cells arr Tb (0, 0)) ∧ arr.size = cells.length ∧ LibA.IsBuffer Tb (fun i => arr[i]?) e B cb o bs w ∧ bs.length = l.length ∧ (∀ v ∈ bs, v.oneCell' = true) ∧ Rowed w c H 1 (.ts l) bs.toArray ∧
      (∀ g n cp, w.cell? ⟨cb, o, none⟩ = some (.slice (some ⟨g, 0, none⟩) n cp) → ∃ k gen, x = .sl k gen 0 l.length ∧ c.G k = some g) := by
  obtain ⟨arr, Tb, h1, h2, h4⟩ := hs.box b cb cells hb hcb
  obtain ⟨q0, q1, q2⟩ := get3_spec h3
  have at_ : ∀ {i : Nat} {u : AV}, cells[i]? = some u → ∃ v, arr[i]? = some v ∧ RA w c H u v := fun {i u} hu => by
    have hlt : i < arr.size := by rw [h2]; exact lt_of_getElem? hu
    exact ⟨arr[i], Array.getElem?_eq_getElem hlt, (h4 i u _ hu (Array.getElem?_eq_getElem hlt)).2.1⟩
  obtain ⟨v0, a0, r0⟩ := at_ q0
  obtain ⟨v1, a1, r1⟩ := at_ q1
  obtain ⟨v2, a2, r2⟩ := at_ q2
  have e1 : v1 = .int .i64 0 := by
    unfold isZ at hy
    split at hy
    · rename_i n
      split at hy
      · rename_i k
        have := Nat.eq_of_beq_eq_true hy
        subst this
        cases r1 with | t _ _ r1 => cases r1; rfl
      · cases hy
    · cases hy
  obtain ⟨lr, e2⟩ : ∃ lr, v2 = .int .i8 lr := by
    unfold isLr at hz
    split at hz
    · rename_i n
      cases r2 with | t _ _ r2 => cases r2; exact ⟨_, rfl⟩
    · cases hz
  subst e1 e2
  have hcell : w.cell? ⟨cb, o, none⟩ = some v0 := by rw [Lib.cell_of_heap h1]; exact a0
  have three : LibA.Three w cb o Tb (fun i => arr[i]?) v0 (.int .i64 0) (.int .i8 lr) := ⟨arr, h1, a0, a1, a2, fun i _ => rfl⟩
  have hB := (hs.base b cb hcb).1
  cases hx with
  | nil =>
    cases r0 with | t _ _ r0 =>
    cases r0
    refine ⟨arr, Tb, [], h1, h2, LibA.zero_isBuffer hB three, rfl, by simp, Rowed.ts.2 (by simp), fun g n cp h => ?_⟩
    rw [hcell] at h; cases h
  | row k gen l hk hl =>
    cases r0 with | sl _ _ _ _ _ blk hbk hm hv =>
    rw [hk] at hbk; cases hbk
    obtain ⟨-, hm⟩ := hm.2 rfl
    rcases hm with ⟨hf, _⟩ | ⟨_, hf, _⟩ | ⟨hne, g, cap, off, hg, rfl, hsz, hcap, hmx, hoff, hoff0⟩
    · cases hf
    · simp only [Sq.length] at hf; omega
    · obtain rfl := hoff0 rfl
      obtain ⟨cur, cap', k1, k2, k3, k4, k5⟩ := hs.arr k g e 1 false gen _ hk hg
      have hrs : rowSize w g = cur.size := by unfold rowSize; rw [k1]
      rw [hrs] at hsz
      have hgb : g ≠ cb := fun h => by
        have := hs.inj k b g hg (by rw [h]; exact hcb)
        subst this
        rw [hk] at hb; cases hb
      have hcs : cur.size = cap := by simpa using hsz.symm
      have hcap2 : l.length ≤ cap := hcap
      have hll : (cur.toList.take l.length).length = l.length := by
        have e : cur.toList.length = cur.size := Array.length_toList
        rw [List.length_take, e]; omega
      have hone : ∀ i, i < l.length → ∃ v, cur[i]? = some v ∧ v.oneCell' = true := fun i hi => by
        obtain ⟨b1, b2⟩ := Rowed.ts.1 k5 i _ (List.getElem?_eq_getElem hi)
        have hj : (l[i]).cells[0]? = some ((l[i]).cells[0]'(by omega)) := List.getElem?_eq_getElem _
        obtain ⟨v, c1, _, _, c4⟩ := b2 0 _ hj
        exact ⟨v, by simpa using c1, c4⟩
      refine ⟨arr, Tb, cur.toList.take l.length, h1, h2, LibA.isBuffer_mk hB three (hs.base k g hg).1 k1 hcap (by simpa using hmx) (by simpa using hsz.symm) hgb, hll, fun v hv => ?_, Rowed.ts.2 fun i x hi => ?_, fun g' n cp h => ?_⟩
      · obtain ⟨i, hi⟩ := List.getElem?_of_mem hv
        have hlt := lt_of_getElem? hi
        rw [hll] at hlt
        obtain ⟨v', c1, c2⟩ := hone i hlt
        rw [List.getElem?_take_of_lt hlt] at hi
        simp only [Array.getElem?_toList] at hi
        rw [hi] at c1; cases c1; exact c2
      · obtain ⟨b1, b2⟩ := Rowed.ts.1 k5 i x hi
        refine ⟨b1, fun j y hj => ?_⟩
        obtain ⟨v, c1, c2⟩ := b2 j y hj
        have hj0 : j = 0 := by have := lt_of_getElem? hj; omega
        subst hj0
        refine ⟨v, ?_, c2⟩
        simp only [Nat.mul_one, Nat.add_zero] at c1 ⊢
        rw [List.getElem?_toArray, List.getElem?_take_of_lt (lt_of_getElem? hi)]
        simpa using c1
      · rw [hcell] at h; cases h
        exact ⟨k, gen, rfl, hg⟩

/-- Behind a write the walk's memory is as told. -/
theorem shut_buf {w w' : World} {c : Cx} {H : AH} {B b cb o e : Nat} {cells : List AV} {x y z : AV} {l p : List T} {arr : Array Value} {Tb : TypeId} {bs cs : List Value} (hs : HS w c H B) (hb : H[b]? = some (.box cells)) (hcb : c.G b = some cb)
    (h3 : get3 o cells = some (x, y, z)) (hx : BSt H e x l) (h1 : w.heap[cb]? = some (.cells arr Tb (0, 0))) (h2 : arr.size = cells.length)
    (hbl : bs.length = l.length) (hbr : Rowed w c H 1 (.ts l) bs.toArray)
    (hrow : ∀ g n cp, w.cell? ⟨cb, o, none⟩ = some (.slice (some ⟨g, 0, none⟩) n cp) → ∃ k gen, x = .sl k gen 0 l.length ∧ c.G k = some g)
    (hI : LibA.IsBuffer Tb (fun i => arr[i]?) e B cb o (bs ++ cs) w') (hkp : KP cb o w w') (hcl : cs.length = p.length) (hcr : Rowed w c H 1 (.ts p) cs.toArray) (hn : x = .t .nils → 1 ≤ p.length) :
    ∃ c', Ev w c H w' c' (bnext H e b o cells p x) ∧ HS w' c' (bnext H e b o cells p x) B := by
  obtain ⟨hB, lr, hc⟩ := hI.cases
  have hpos : 1 ≤ (l ++ p).length := by
    rw [List.length_append]
    cases hx with
    | nil => have := hn rfl; omega
    | row => omega
  have hlen : (bs ++ cs).length = (l ++ p).length := by simp only [List.length_append, hbl, hcl]
  rcases hc with ⟨h0, _⟩ | ⟨g, cap, cur, hbk, hBg, hg, hnc, hcm, hcz, htk, hgb⟩
  · have := congrArg List.length h0
    rw [hlen] at this; simp only [List.length_nil] at this; omega
  obtain ⟨cs', hc', k0, k1, k2, kr⟩ := hbk
  have hlr : (Value.int .i8 lr) = .int .i8 0 := by
    have := hkp.2.2.1
    rw [Lib.cell_of_heap hc', k2] at this
    exact Option.some.inj this
  rw [hlr] at k2
  have hcz' : cs'.size = arr.size := by
    have h3' := get3_spec h3
    have ho := lt_of_getElem? h3'.2.2
    have hlt : o + 2 < cs'.size := (Array.getElem?_eq_some_iff.1 k2).1
    have a1 : cs'[arr.size]? = none := by rw [kr _ (.inr (by omega))]; exact Array.getElem?_eq_none (by omega)
    have a2 := Array.getElem?_eq_none_iff.1 a1
    rcases Nat.lt_or_ge cs'.size arr.size with h | h
    · have := kr cs'.size (.inr (by omega))
      simp only at this
      rw [Array.getElem?_eq_none (Nat.le_refl _), Array.getElem?_eq_getElem h] at this
      cases this
    · omega
  have hget : ∀ (i : Nat) v, (bs ++ cs)[i]? = some v → cur[i]? = some v := fun i v hv => by
    have hlt := lt_of_getElem? hv
    rw [← htk, List.getElem?_take_of_lt hlt] at hv
    simpa using hv
  have hall := rowed_app hbr hcr hbl hget
  have hcell' : w'.cell? ⟨cb, o, none⟩ = some (.slice (some ⟨g, 0, none⟩) (bs ++ cs).length cap) := by rw [Lib.cell_of_heap hc']; exact k0
  rw [hlen] at k0 hnc
  cases hx with
  | row k gen l hk hl =>
    have hgk : c.G k = some g ∨ w.heap.size ≤ g := by
      rcases hkp.2.1 g _ _ hcell' with ⟨l1, c1, h⟩ | h
      · obtain ⟨k', gen', he, hg'⟩ := hrow g l1 c1 h
        cases he
        exact .inl hg'
      · exact .inr h
    have hGk : c.G k ≠ none := by
      intro hnone
      have h3' := get3_spec h3
      obtain ⟨arr0, e0, b1, b2, b3⟩ := hs.box b cb cells hb hcb
      rw [h1] at b1; cases b1
      have hlt : o < arr.size := by rw [h2]; exact lt_of_getElem? h3'.1
      have hra := (b3 o _ _ h3'.1 (Array.getElem?_eq_getElem hlt)).2.1
      cases hra with | sl _ _ _ _ _ blk hbk hm hv =>
      rw [hk] at hbk; cases hbk
      obtain ⟨-, hm⟩ := hm.2 rfl
      rcases hm with ⟨hf, _⟩ | ⟨_, hf, _⟩ | ⟨hne, g', cap', off, hg', _⟩
      · cases hf
      · simp only [Sq.length] at hf; omega
      · rw [hnone] at hg'; cases hg'
    have := two_turn (gen' := gen + 2 - gen % 2) (lr := 0) hs hb hcb hk h3 (fun _ => hGk) h1 hkp.1 (fun i hi h4 h5 => hkp.2.2.2 i hi h4 (fun g' l1 c1 h => ?_)) hc' hcz' k0 k1 k2 kr hg hBg hgb hgk hcz hnc hcm (by simp) hpos (by omega) (by omega) hall
    · simp only [bnext, hk]
      exact ⟨_, this⟩
    · rintro rfl
      obtain ⟨k', gen', he, hg'⟩ := hrow _ l1 c1 h
      cases he
      exact h5 hg'
  | nil =>
    have hfresh : w.heap.size ≤ g := by
      rcases hkp.2.1 g _ _ hcell' with ⟨l1, c1, h⟩ | h
      · obtain ⟨k', gen', he, hg'⟩ := hrow g l1 c1 h
        cases he
      · exact h
    obtain ⟨ev0, hs0⟩ := new_none hs (.arr e 1 false 0 (.ts []))
    have hb0 : (H ++ [.arr e 1 false 0 (.ts [])])[b]? = some (.box cells) := by rw [getElem?_snoc_lt (lt_of_getElem? hb)]; exact hb
    obtain ⟨ev1, hs1⟩ := two_turn (gen := 0) (gen' := 2) (lr := 0) (l' := p) (l := []) hs0 hb0 hcb getElem?_snoc_eq h3 (fun h => (h rfl).elim) h1 hkp.1 (fun i hi h4 h5 => hkp.2.2.2 i hi h4 (fun g' l1 c1 h => by
      obtain ⟨k', gen', he, hg'⟩ := hrow g' l1 c1 h
      cases he)) hc' hcz' k0 k1 k2 kr hg hBg hgb (.inr hfresh) hcz hnc hcm (by simp) hpos (by omega) (by omega) (by
        have := hall.ev ev0
        simpa using this)
    have hset : (H ++ [Blk.arr e 1 false 0 (.ts [])]).set H.length (.arr e 1 false 2 (.ts p)) = H ++ [Blk.arr e 1 false 2 (.ts p)] := by
      rw [List.set_append_right _ _ (Nat.le_refl _)]; simp
    rw [hset] at ev1 hs1
    exact ⟨_, ev0.trans ev1, hs1⟩

end Go.Proofs.YthpkehhghcpolaaDoor
