/-
  A buffer's variable and its row turn in a walk's memory.
-/
import Derived.Test.YthpkehhghcpolaaDoorQBuf
namespace Go.Proofs.YthpkehhghcpolaaDoor
open Go.RowKit
set_option linter.unusedVariables false
set_option linter.unusedSimpArgs false

theorem get3_spec : ∀ {o : Nat} {cells : List AV} {x y z : AV}, get3 o cells = some (x, y, z) → cells[o]? = some x ∧ cells[o + 1]? = some y ∧ cells[o + 2]? = some z
  | 0, a :: b :: c :: r, x, y, z, h => by simp [get3] at h; obtain ⟨rfl, rfl, rfl⟩ := h; exact ⟨rfl, rfl, rfl⟩
  | 0, [], x, y, z, h => by simp [get3] at h
  | 0, [_], x, y, z, h => by simp [get3] at h
  | 0, [_, _], x, y, z, h => by simp [get3] at h
  | n + 1, [], x, y, z, h => by simp [get3] at h
  | n + 1, a :: r, x, y, z, h => by
    have := get3_spec (o := n) (cells := r) (by simpa [get3] using h)
    simpa using this

theorem put3_spec {x y z : AV} : ∀ {o : Nat} {cells : List AV} {t : AV × AV × AV}, get3 o cells = some t → (put3 x y z o cells).length = cells.length ∧
    ∀ (j : Nat) u, (put3 x y z o cells)[j]? = some u → (j = o ∧ u = x) ∨ (j = o + 1 ∧ u = y) ∨ (j = o + 2 ∧ u = z) ∨ ((j < o ∨ o + 3 ≤ j) ∧ cells[j]? = some u)
  | 0, a :: b :: c :: r, t, h => by
    refine ⟨rfl, fun j u hj => ?_⟩
    match j, hj with
    | 0, hj => exact .inl ⟨rfl, by simpa [put3] using hj.symm⟩
    | 1, hj => exact .inr (.inl ⟨rfl, by simpa [put3] using hj.symm⟩)
    | 2, hj => exact .inr (.inr (.inl ⟨rfl, by simpa [put3] using hj.symm⟩))
    | j + 3, hj => exact .inr (.inr (.inr ⟨.inr (by omega), by simpa [put3] using hj⟩))
  | 0, [], t, h => by simp [get3] at h
  | 0, [_], t, h => by simp [get3] at h
  | 0, [_, _], t, h => by simp [get3] at h
  | n + 1, [], t, h => by simp [get3] at h
  | n + 1, a :: r, t, h => by
    obtain ⟨h1, h2⟩ := put3_spec (x := x) (y := y) (z := z) (o := n) (cells := r) (t := t) (by simpa [get3] using h)
    refine ⟨by simp [put3, h1], fun j u hj => ?_⟩
    match j, hj with
    | 0, hj => exact .inr (.inr (.inr ⟨.inl (by omega), by simpa [put3] using hj⟩))
    | j + 1, hj =>
      rcases h2 j u (by simpa [put3] using hj) with ⟨rfl, e⟩ | ⟨rfl, e⟩ | ⟨rfl, e⟩ | ⟨hlt, e⟩
      · exact .inl ⟨rfl, e⟩
      · exact .inr (.inl ⟨by omega, e⟩)
      · exact .inr (.inr (.inl ⟨by omega, e⟩))
      · exact .inr (.inr (.inr ⟨by omega, by simpa using e⟩))

/-- The context in which a block lies elsewhere. -/
def Cx.mv (c : Cx) (k g : Nat) : Cx := ⟨c.F, fun b => if b = k then some g else c.G b⟩

theorem two_turn {w w' : World} {c : Cx} {H : AH} {B b k cb o e gen gen' g cap lr : Nat} {l l' : List T} {cells : List AV} {t : AV × AV × AV} (hs : HS w c H B)
    (hb : H[b]? = some (.box cells)) (hcb : c.G b = some cb) (hk : H[k]? = some (.arr e 1 false gen (.ts l))) (h3 : get3 o cells = some t)
    (hfix : l ≠ [] → c.G k ≠ none) {arr cs cur : Array Value} {Tb : TypeId} (harr : w.heap[cb]? = some (.cells arr Tb (0, 0)))
    (hsz : w.heap.size ≤ w'.heap.size) (hfr : ∀ i, i < w.heap.size → i ≠ cb → c.G k ≠ some i → w'.heap[i]? = w.heap[i]?)
    (hcs : w'.heap[cb]? = some (.cells cs Tb (0, 0))) (hcz : cs.size = arr.size) (hc0 : cs[o]? = some (.slice (some ⟨g, 0, none⟩) l'.length cap)) (hc1 : cs[o + 1]? = some (.int .i64 0)) (hc2 : cs[o + 2]? = some (.int .i8 0))
    (hcr : ∀ i, (i < o ∨ o + 3 ≤ i) → cs[i]? = arr[i]?) (hg : w'.heap[g]? = some (.cells cur e (0, 0))) (hBg : B ≤ g) (hgb : g ≠ cb) (hgo : c.G k = some g ∨ w.heap.size ≤ g)
    (hcur : cur.size = cap) (hle : l'.length ≤ cap) (hm : cap ≤ maxLen) (hll : l.length ≤ l'.length) (h0 : 0 < l'.length) (hgg : gen < gen') (hev : gen' % 2 = 0)
    (hrow : Rowed w c H 1 (.ts l') cur) :
    Ev w c H w' (c.mv k g) ((H.set k (.arr e 1 false gen' (.ts l'))).set b (.box (put3 (.sl k gen' 0 l'.length) (.t (.int .i64 0)) (.t (.int .i8 0)) o cells))) ∧
    HS w' (c.mv k g) ((H.set k (.arr e 1 false gen' (.ts l'))).set b (.box (put3 (.sl k gen' 0 l'.length) (.t (.int .i64 0)) (.t (.int .i8 0)) o cells))) B := by
  have hkb : k ≠ b := by rintro rfl; rw [hk] at hb; cases hb
  have hkl := lt_of_getElem? hk
  have hbl := lt_of_getElem? hb
  obtain ⟨hpl, hps⟩ := put3_spec (x := .sl k gen' 0 l'.length) (y := .t (.int .i64 0)) (z := .t (.int .i8 0)) h3
  generalize hcells' : put3 (.sl k gen' 0 l'.length) (.t (.int .i64 0)) (.t (.int .i8 0)) o cells = cells' at hpl hps
  have gk : ((H.set k (.arr e 1 false gen' (.ts l'))).set b (.box cells'))[k]? = some (.arr e 1 false gen' (.ts l')) := by
    rw [List.getElem?_set_ne (Ne.symm hkb)]; simp [hkl]
  have gb : ((H.set k (.arr e 1 false gen' (.ts l'))).set b (.box cells'))[b]? = some (.box cells') := by simp [hbl]
  have go : ∀ i, i ≠ k → i ≠ b → ((H.set k (.arr e 1 false gen' (.ts l'))).set b (.box cells'))[i]? = H[i]? := fun i h1 h2 => by
    rw [List.getElem?_set_ne (Ne.symm h2), List.getElem?_set_ne (Ne.symm h1)]
  generalize hH' : (H.set k (.arr e 1 false gen' (.ts l'))).set b (.box cells') = H' at gk gb go
  have hlen : H'.length = H.length := by rw [← hH']; simp
  have cg : ∀ i, i ≠ k → (c.mv k g).G i = c.G i := fun i h => by simp [Cx.mv, h]
  have ck : (c.mv k g).G k = some g := by simp [Cx.mv]
  have hglt : g < w'.heap.size := (Array.getElem?_eq_some_iff.1 hg).1
  have hcblt := (hs.base b cb hcb).2
  -- places of other blocks are kept
  have keep : ∀ i cb', i ≠ k → i ≠ b → c.G i = some cb' → w'.heap[cb']? = w.heap[cb']? := fun i cb' h1 h2 h => by
    refine hfr cb' (hs.base i cb' h).2 (fun e => h2 (hs.inj i b cb' h (by rw [e]; exact hcb))) (fun e => h1 (hs.inj i k cb' h e))
  have ev : Ev w c H w' (c.mv k g) H' := by
    refine ⟨rfl, hsz, fun i blk hi => ?_, fun x hx => ?_, fun x hx hm => ?_, fun i blk hi hf hgi => ?_⟩
    · by_cases h1 : i = k
      · subst h1
        rw [hk] at hi; cases hi
        exact ⟨_, gk, rfl, rfl, rfl, hll, by omega, fun h => by omega⟩
      · by_cases h2 : i = b
        · subst h2
          rw [hb] at hi; cases hi
          exact ⟨_, gb, hpl.symm, fun cb' h => by rw [cg _ h1]; exact h⟩
        · refine ⟨blk, (go i h1 h2).trans hi, ?_⟩
          cases blk with
          | dead => trivial
          | box cs => exact ⟨rfl, fun cb' h => by rw [cg _ h1]; exact h⟩
          | iter s p => exact ⟨rfl, fun cb' h => by rw [cg _ h1]; exact h⟩
          | arr => exact ⟨rfl, rfl, rfl, Nat.le_refl _, Nat.le_refl _, fun _ => ⟨rfl, fun cb' h => ⟨by rw [cg _ h1]; exact h, by simp only [rowSize, keep i cb' h1 h2 h]⟩⟩⟩
    · rcases hx with hx | ⟨i, blk, hi, hlv, hgi⟩
      · exact .inl (.inl hx)
      · by_cases h1 : i = k
        · subst h1
          rw [ck] at hgi; cases hgi
          rcases hgo with h | h
          · exact .inl (.inr ⟨i, _, hk, rfl, h⟩)
          · exact .inr h
        · rw [cg _ h1] at hgi
          by_cases h2 : i = b
          · subst h2; exact .inl (.inr ⟨i, _, hb, rfl, hgi⟩)
          · rw [go i h1 h2] at hi; exact .inl (.inr ⟨i, blk, hi, hlv, hgi⟩)
    · exact hfr x hx (fun e => hm (.inr ⟨b, _, hb, rfl, by rw [e]; exact hcb⟩)) (fun e => hm (.inr ⟨k, _, hk, rfl, e⟩))
    · by_cases h1 : i = k
      · subst h1
        rw [hk] at hi; cases hi
        simp only [Blk.fix, Sq.length, Bool.not_false, Bool.true_and, decide_eq_true_eq] at hf
        exact (hfix (List.ne_nil_of_length_pos (of_decide_eq_true hf)) hgi).elim
      · rw [cg _ h1]; exact hgi
  refine ⟨ev, hs.keep ev (fun i j cb' h1 h2 => ?_) (fun i cb' h => ?_) (fun i cb' h => ?_) (fun i cb' cs' hi hgi => ?_) (fun i cb' e' s' z' g' lq hi hgi => ?_) (fun i cb' s p hi hgi => ?_)⟩
  · have far : ∀ j, j ≠ k → c.G j = some g → False := fun j hj h => by
      rcases hgo with h' | h'
      · exact hj (hs.inj j k g h h')
      · have := (hs.base j g h).2; omega
    by_cases e1 : i = k
    · by_cases e2 : j = k
      · omega
      · subst e1; rw [ck] at h1; cases h1
        rw [cg _ e2] at h2
        exact (far j e2 h2).elim
    · rw [cg _ e1] at h1
      by_cases e2 : j = k
      · subst e2; rw [ck] at h2; cases h2
        exact (far i e1 h1).elim
      · rw [cg _ e2] at h2; exact hs.inj i j cb' h1 h2
  · by_cases e1 : i = k
    · subst e1; rw [ck] at h; cases h; exact ⟨hBg, hglt⟩
    · rw [cg _ e1] at h; have := hs.base i cb' h; omega
  · rw [hlen]
    by_cases e1 : i = k
    · subst e1; exact hkl
    · rw [cg _ e1] at h; exact hs.dom i cb' h
  · by_cases e1 : i = k
    · subst e1; rw [gk] at hi; cases hi
    · rw [cg _ e1] at hgi
      by_cases e2 : i = b
      · subst e2
        rw [gb] at hi; cases hi
        rw [hcb] at hgi; cases hgi
        obtain ⟨arr0, e0, a1, a2, a3⟩ := hs.box i cb cells hb hcb
        rw [harr] at a1; cases a1
        refine .inr ⟨cs, _, hcs, by omega, fun j x v hj hv => ?_⟩
        rcases hps j x hj with ⟨rfl, rfl⟩ | ⟨rfl, rfl⟩ | ⟨rfl, rfl⟩ | ⟨hj', hx⟩
        · rw [hc0] at hv; cases hv
          refine ⟨rfl, .sl k gen' 0 l'.length _ _ gk ⟨Nat.le_refl _, fun _ => ⟨by simp [Sq.length], .inr (.inr ⟨by simp, g, cap, 0, ck, rfl, ?_, hle, by omega, .inr (by omega), fun _ => rfl⟩)⟩⟩, rfl⟩
          unfold rowSize; rw [hg]; show (0 + cap) * 1 = cur.size; omega
        · rw [hc1] at hv; cases hv; exact ⟨rfl, .t _ _ (.int _ _), rfl⟩
        · rw [hc2] at hv; cases hv; exact ⟨rfl, .t _ _ (.int _ _), rfl⟩
        · rw [hcr j hj'] at hv
          obtain ⟨b1, b2, b3⟩ := a3 j x v hx hv
          exact ⟨b1, b2.ev ev, b3⟩
      · rw [go i e1 e2] at hi
        exact .inl ⟨hi, hgi, keep i cb' e1 e2 hgi⟩
  · by_cases e1 : i = k
    · subst e1
      rw [gk] at hi; cases hi
      rw [ck] at hgi; cases hgi
      refine .inr ⟨cur, cap, hg, by omega, ⟨hle, fun h => by omega⟩, hm, hrow.ev ev⟩
    · rw [cg _ e1] at hgi
      by_cases e2 : i = b
      · subst e2; rw [gb] at hi; cases hi
      · rw [go i e1 e2] at hi
        exact .inl ⟨hi, hgi, keep i cb' e1 e2 hgi⟩
  · by_cases e1 : i = k
    · subst e1; rw [gk] at hi; cases hi
    · rw [cg _ e1] at hgi
      by_cases e2 : i = b
      · subst e2; rw [gb] at hi; cases hi
      · rw [go i e1 e2] at hi
        exact .inl ⟨hi, hgi, keep i cb' e1 e2 hgi⟩

end Go.Proofs.YthpkehhghcpolaaDoor
