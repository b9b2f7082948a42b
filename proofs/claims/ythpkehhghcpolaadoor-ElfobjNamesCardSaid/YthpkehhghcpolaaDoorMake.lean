/-
  Operations that make a block out of their operands alone: the walk may lay the block before the model does.
-/
import Derived.Test.YthpkehhghcpolaaDoorDet
namespace Go.Proofs.YthpkehhghcpolaaDoor
open Go.RowKit
set_option linter.unusedVariables false
set_option linter.unusedSimpArgs false

def sameSlot : Operand → Operand → Bool
  | .tmp a, .tmp b => Nat.beq a b
  | _, _ => false

def isMk (o : Oper) : Bool :=
  match o.op with
  | .alloc _ => true
  | .box _ _ => true
  | .buildSlice _ _ _ => true
  | .makeSlice _ l c => sameSlot l c
  | _ => false

/-- What an operation makes: what leads to the block, and the block. -/
def xmake (tab : Tab) (o : Oper) (env : List (Nat × AV)) (K : (Nat → AV) → Blk → Prop) : Prop :=
  match o.op with
  | .alloc e => Opt (tab e) fun y => Opt y.zero fun zs => Ck (zs.all T.one && Nat.beq zs.length y.size) (K (fun n => .ptr n 0 0 0) (.box (zs.map .t)))
  | .box e x => Ck ((opd env x).cells.all AV.one) (K (fun n => .ptr n 0 0 0) (.box (opd env x).cells))
  | .buildSlice t len parts => Opt (tab t) fun y =>
    match y.d with
    | .slice e => Opt (tab e) fun z => Opt (elems z.size 0 (parts.toList.map fun p => (p.1, opd env p.2))) fun l =>
      Ck (Nat.beq l.length len && Nat.ble 1 z.size && Nat.ble (len * z.size) 16777216 && z.zero.isSome) (K (fun n => .sl n 0 0 len) (.arr e z.size false 0 (seqOf l)))
    | _ => False
  | .makeSlice t l c => Opt (tab t) fun y =>
    match y.d, opd env l, opd env c with
    | .slice e, .t (.int _ n), .t (.int _ cc) => Opt (tab e) fun z => Opt z.zero fun zs =>
      Ck (decide (0 ≤ n) && decide (n ≤ cc) && decide (cc * (z.bytes : Int) ≤ 140737488355328) && decide (cc ≤ 9223372036854775807) && Nat.ble 1 z.size && Nat.beq zs.length z.size && zs.all T.one)
        (Ck (decide (n = cc)) (K (fun m => .sl m 0 0 n.toNat) (.arr e z.size false 0 (.ts (List.replicate n.toNat (mkElem z.size zs))))))
    | _, _, _ => False
  | _ => False

theorem xop_make {tab : Tab} {call : CallP} {o : Oper} {env : List (Nat × AV)} {H : AH} {K : AV → AH → Prop} (hm : isMk o = true) (h : xop tab call o env H K) :
    ∃ mk blk, xmake tab o env (fun m b => m = mk ∧ b = blk) ∧ K (mk H.length) (H ++ [blk]) := by
  unfold xop at h
  unfold xmake
  unfold isMk at hm
  generalize o.op = p at h hm ⊢
  cases p <;> simp only at hm h ⊢ <;> first | (cases hm; done) | skip
  · simp only [opt_iff, ck_iff] at h ⊢
    obtain ⟨y, hy, zs, hz, hc, k⟩ := h
    exact ⟨_, _, ⟨y, hy, zs, hz, hc, rfl, rfl⟩, k⟩
  · simp only [ck_iff] at h ⊢
    exact ⟨_, _, ⟨h.1, rfl, rfl⟩, h.2⟩
  · unfold xbuildSlice at h
    rw [opt_iff] at h
    obtain ⟨y, hy, h⟩ := h
    split at h
    · rename_i e he
      simp only [opt_iff, ck_iff] at h ⊢
      obtain ⟨z, hz, l, hl, hc, k⟩ := h
      refine ⟨fun n => .sl n 0 0 _, _, ⟨y, hy, ?_⟩, k⟩
      rw [he]
      simp only [opt_iff, ck_iff]
      exact ⟨z, hz, l, hl, hc, trivial, rfl⟩
    · exact h.elim
  · rename_i t l cp
    unfold xmakeSlice at h
    have hlc : opd env cp = opd env l := by
      cases l <;> cases cp <;> simp only [sameSlot] at hm <;> first | (cases hm; done) | skip
      rw [Nat.eq_of_beq_eq_true hm]
    rw [hlc] at h ⊢
    rw [opt_iff] at h
    obtain ⟨y, hy, h⟩ := h
    generalize hv : opd env l = v at h ⊢
    split at h
    · rename_i e k1 n k2 c2 he h2
      cases h2
      simp only [opt_iff, ck_iff] at h
      obtain ⟨z, hz, zs, hzs, hc, k⟩ := h
      rw [br_iff] at k
      rcases k with ⟨k0, _⟩ | ⟨_, k⟩
      · simp at k0
      refine ⟨fun m => .sl m 0 0 n.toNat, _, opt_iff.2 ⟨y, hy, ?_⟩, k⟩
      rw [he]
      simp only [opt_iff, ck_iff]
      exact ⟨z, hz, zs, hzs, hc, by simp, trivial, rfl⟩
    · exact h.elim

theorem xmake_env {tab : Tab} {o : Oper} {env env' : List (Nat × AV)} {K : (Nat → AV) → Blk → Prop} (he : ∀ x ∈ o.op.operands.toList, opd env x = opd env' x) (h : xmake tab o env K) : xmake tab o env' K := by
  unfold xmake at h ⊢
  generalize o.op = p at h he ⊢
  cases p <;> simp only at h ⊢ <;> first | exact h | skip
  case box t x => rw [← he x (by simp [Op.operands])]; exact h
  case buildSlice t n ps => rw [← parts_env (env := env) (fun x hx => he x (by simpa [Op.operands] using hx))]; exact h
  case makeSlice t a b => rw [← he a (by simp [Op.operands]), ← he b (by simp [Op.operands])]; exact h

theorem xmake_mono {tab : Tab} {o : Oper} {env : List (Nat × AV)} {K K' : (Nat → AV) → Blk → Prop} (hk : ∀ m b, K m b → K' m b) (h : xmake tab o env K) : xmake tab o env K' := by
  unfold xmake at h ⊢
  generalize o.op = p at h ⊢
  cases p <;> simp only at h ⊢ <;> first | exact h | skip
  · simp only [opt_iff, ck_iff] at h ⊢
    obtain ⟨y, hy, zs, hz, hc, k⟩ := h
    exact ⟨y, hy, zs, hz, hc, hk _ _ k⟩
  · simp only [ck_iff] at h ⊢
    exact ⟨h.1, hk _ _ h.2⟩
  · rw [opt_iff] at h ⊢
    obtain ⟨y, hy, h⟩ := h
    refine ⟨y, hy, ?_⟩
    split at h
    · simp only [opt_iff, ck_iff] at h ⊢
      obtain ⟨z, hz, l, hl, hc, k⟩ := h
      exact ⟨z, hz, l, hl, hc, hk _ _ k⟩
    · exact h.elim
  · rw [opt_iff] at h ⊢
    obtain ⟨y, hy, h⟩ := h
    refine ⟨y, hy, ?_⟩
    split at h
    · simp only [opt_iff, ck_iff] at h ⊢
      obtain ⟨z, hz, zs, hzs, hc, hn, k⟩ := h
      exact ⟨z, hz, zs, hzs, hc, hn, hk _ _ k⟩
    · exact h.elim

/-- The model's block holds what the walk's block says. -/
inductive Fills (w : World) (c : Cx) (H : AH) : (Nat → AV) → Blk → Value → Obj → Prop
  | box (cells : List AV) (arr : Array Value) (e : TypeId) (hl : arr.size = cells.length)
      (hc : ∀ (j : Nat) x v, cells[j]? = some x → arr[j]? = some v → x.one = true ∧ RA w c H x v ∧ v.oneCell' = true) :
      Fills w c H (fun n => .ptr n 0 0 0) (.box cells) (.pointer (some ⟨w.heap.size, 0, none⟩)) (.cells arr e (0, 0))
  | arr (e s len : Nat) (l : Sq) (arr : Array Value) (hl : arr.size = len * s) (hn : l.length = len) (hm : len ≤ maxLen) (hc : Rowed w c H s l arr) :
      Fills w c H (fun n => .sl n 0 0 len) (.arr e s false 0 l) (.slice (some ⟨w.heap.size, 0, none⟩) len len) (.cells arr e (0, 0))

section
variable {P : Program} {tab : Tab}

theorem mk_ok (hT : TabOK P tab) {o : Oper} {env : List (Nat × AV)} {K : (Nat → AV) → Blk → Prop} (h : xmake tab o env K) {w : World} {c : Cx} {H : AH} {a : Act} (he : ∀ t, RA w c H (lk env t) (a.tmps.getD t undef)) :
    ∃ mk blk val obj, (execOp a.eval o).run P w = .ok (.value val) (w.alloc obj) ∧ Fills w c H mk blk val obj ∧ K mk blk := by
  unfold xmake at h
  split at h
  · rename_i e ho
    simp only [opt_iff, ck_iff] at h
    obtain ⟨y, hy, zs, hz, hc, k⟩ := h
    simp only [Bool.and_eq_true] at hc
    obtain ⟨z, r, hz', _⟩ := run_zero (w := w) hT hy hz
    have ha := agg_of_zero (w := w) (c := c) (H := H) hz' hc.1
    have hall : (AV.agg (zs.map .t)).cells.all AV.one = true := by simp only [AV.cells, List.all_map]; exact hc.1
    obtain ⟨cl, cr⟩ := ha.cells hall
    refine ⟨_, _, _, _, ?_, .box (zs.map .t) z.cells e cl.symm cr, k⟩
    unfold execOp
    rw [ho]
    simp [Instr.alloc, r, newVar, newRow]
  · rename_i e x ho
    rw [ck_iff] at h
    obtain ⟨cl, cr⟩ := (opd_ok he x).cells h.1
    refine ⟨_, _, _, _, ?_, .box _ (a.eval x).cells e cl.symm cr, h.2⟩
    unfold execOp
    rw [ho]
    simp [Instr.box, newVar, newRow]
  · rename_i t len parts ho
    rw [opt_iff] at h
    obtain ⟨y, hy, h⟩ := h
    have hd := (hT t y hy).d
    split at h
    · rename_i e hye
      rw [hye] at hd
      simp only [opt_iff, ck_iff] at h
      obtain ⟨z, hz, l, hel, hc, k⟩ := h
      simp only [Bool.and_eq_true] at hc
      have c1 := Nat.eq_of_beq_eq_true hc.1.1.1
      have c2 := Nat.le_of_ble_eq_true hc.1.1.2
      have c3 := Nat.le_of_ble_eq_true hc.1.2
      obtain ⟨zs, hzs⟩ := Option.isSome_iff_exists.1 hc.2
      have hp := parts_ok he parts.toList
      obtain ⟨arr0, ha0, hrun⟩ := run_buildSlice (P := P) (w := w) hT hd hz hzs c3 (parts.map fun p => (p.1, a.eval p.2))
      obtain ⟨q, q1, q2, q3, q4⟩ := elems_ok c2 (arr := arr0) hp hel (by rw [ha0, c1, Nat.zero_add]; exact Nat.le_refl _)
      have hmax : len ≤ maxLen := by
        have : len * 1 ≤ len * z.size := Nat.mul_le_mul_left _ c2
        simp [maxLen]; omega
      refine ⟨_, _, _, _, ?_, .arr e z.size len (seqOf l) q (by rw [q2, ha0]) (by rw [seqOf_length]; exact c1) hmax (fun i x hi => by rw [seqOf_get] at hi; have := q4 i x hi; rw [Nat.zero_add] at this; exact this), k⟩
      have := hrun q (by rw [Array.toList_map]; exact q1)
      unfold execOp
      rw [ho]
      simp only [Sem.run_bind, this, Result.andThen_ok, Sem.run_pure]
    · exact h.elim
  · rename_i t l cp ho
    rw [opt_iff] at h
    obtain ⟨y, hy, h⟩ := h
    have hd := (hT t y hy).d
    have hl := opd_ok he l
    have hcp := opd_ok he cp
    split at h
    · rename_i e k1 n k2 cc hye h1 h2
      rw [hye] at hd
      rw [h1] at hl
      rw [h2] at hcp
      simp only [opt_iff, ck_iff] at h
      obtain ⟨z, hz, zs, hzs, hc, hn, k⟩ := h
      obtain rfl := of_decide_eq_true hn
      simp only [Bool.and_eq_true, decide_eq_true_eq] at hc
      obtain ⟨⟨⟨⟨⟨⟨h0, hnc⟩, hby⟩, hmx⟩, hs1⟩, hzl⟩, hz1⟩ := hc
      have hs1 := Nat.le_of_ble_eq_true hs1
      have hzl := Nat.eq_of_beq_eq_true hzl
      have hl := hl.int
      have hcp := hcp.int
      obtain ⟨zv, r, hz', i, hi, hiz, his, hib⟩ := run_zero (w := w) hT hz hzs
      obtain ⟨zk1, zk2⟩ := ofVs_ok (w := w) (M := c.M H) hz'
      have run := run_make (P := P) w t e i zv hd hi hiz k1 k2 n n h0 hnc (by rw [hib, Int.mul_comm]; omega) (by omega)
      rw [his] at run
      have hzs0 : zv.cells.size = z.size := by simpa [hzl] using zk1.symm
      have hel := mkElem_cells hzl hz1 hs1
      refine ⟨_, _, _, _, ?_, .arr e z.size n.toNat (.ts (List.replicate n.toNat (mkElem z.size zs))) (madeCells zv.cells (n.toNat * z.size)) (by rw [size_madeCells]) (by simp [Sq.length]) (by simp [maxLen]; omega) (Rowed.ts.2 fun k x hk => ?_), k⟩
      · unfold execOp
        rw [ho]
        simp only [Sem.run_bind, hl, hcp, run, Result.andThen_ok, Sem.run_pure]
      · have hkl := lt_of_getElem? hk
        simp at hkl
        have : x = mkElem z.size zs := by simp [hkl] at hk; exact hk.symm
        subst this
        rw [hel]
        refine ⟨hzl, fun j y' hj => ?_⟩
        have hjl := lt_of_getElem? hj
        have hlt : k * z.size + j < n.toNat * z.size := by
          have : (k + 1) * z.size ≤ n.toNat * z.size := Nat.mul_le_mul_right _ (by omega)
          rw [Nat.succ_mul] at this; omega
        obtain ⟨q, hq⟩ := arr_get (a := zv.cells) (i := j) (by omega)
        have hy1 : y'.one = true := by rw [List.all_eq_true] at hz1; exact hz1 y' (List.mem_of_getElem? hj)
        have rt := zk2 j y' q hj (by simpa using hq)
        refine ⟨q, ?_, hy1, rt, (rt.oneCell hy1).1⟩
        rw [made_get _ _ _ hlt (by omega), hzs0, Nat.mul_comm k, Nat.mul_add_mod, Nat.mod_eq_of_lt (by omega)]
        exact hq
    · exact h.elim
  · exact h.elim

/-- The model lays a block that the walk has laid already. -/
theorem late_ok {w : World} {c : Cx} {H : AH} {B : Nat} (hs : HS w c H B) {n : Nat} {mk : Nat → AV} {blk : Blk} {val : Value} {obj : Obj} (hb : H[n]? = some blk) (hg : blk.fix = true → c.G n = none) (hf : Fills w c H mk blk val obj) :
    ∃ c', Ew w c H (w.alloc obj) c' H ∧ HS (w.alloc obj) c' H B ∧ RA (w.alloc obj) c' H (mk n) val ∧ (∀ b, b ≠ n → c.G b = none → c'.G b = none) := by
  have hlt := lt_of_getElem? hb
  by_cases hfix : blk.fix = true
  · have hg := hg hfix
    let c' : Cx := ⟨c.F, fun b => if b = n then some w.heap.size else c.G b⟩
    have ew : Ew w c H (w.alloc obj) c' H := by
      refine ⟨rfl, by simp, fun b bk hb' => ⟨bk, hb', ?_⟩, fun cb hm => ?_, fun cb hlt _ => heap_old w _ cb hlt⟩
      · have keep : ∀ cb, c.G b = some cb → c'.G b = some cb := fun cb hc => by
          have hne : b ≠ n := fun e => by subst e; rw [hg] at hc; cases hc
          simp only [c', if_neg hne]; exact hc
        cases bk with
        | dead => trivial
        | box cs => exact ⟨rfl, keep⟩
        | iter s p => exact ⟨rfl, keep⟩
        | arr e s z g l =>
          refine ⟨rfl, rfl, rfl, Nat.le_refl _, Nat.le_refl _, fun _ => ⟨rfl, fun cb hc => ⟨keep cb hc, ?_⟩⟩⟩
          unfold rowSize
          rw [heap_old w _ cb (hs.base b cb hc).2]
      · rcases hm with hm | ⟨b, bk, hb', hl, hg'⟩
        · exact .inl (.inl hm)
        · simp only [c'] at hg'
          split at hg'
          · exact .inr (by simp at hg'; omega)
          · exact .inl (.inr ⟨b, bk, hb', hl, hg'⟩)
    have hinj : ∀ b b' cb, c'.G b = some cb → c'.G b' = some cb → b = b' := by
      intro b b' cb h h'
      simp only [c'] at h h'
      split at h <;> split at h'
      · omega
      · have := (hs.base b' cb h').2; simp at h; omega
      · have := (hs.base b cb h).2; simp at h'; omega
      · exact hs.inj b b' cb h h'
    have hbase : ∀ b cb, c'.G b = some cb → B ≤ cb ∧ cb < (w.alloc obj).heap.size := by
      intro b cb h
      simp only [c'] at h
      split at h
      · simp at h; subst h; exact ⟨hs.hB, by simp⟩
      · have := hs.base b cb h; exact ⟨this.1, by simp; omega⟩
    have hdom : ∀ b cb, c'.G b = some cb → b < H.length := by
      intro b cb h
      simp only [c'] at h
      split at h
      · omega
      · exact hs.dom b cb h
    have hold : ∀ b cb, b ≠ n → c'.G b = some cb → c.G b = some cb ∧ (w.alloc obj).heap[cb]? = w.heap[cb]? := by
      intro b cb hne h
      simp only [c', if_neg hne] at h
      exact ⟨h, heap_old w _ cb (hs.base b cb h).2⟩
    have hhere : ∀ cb, c'.G n = some cb → cb = w.heap.size := by
      intro cb h
      simp only [c', if_true] at h
      simp at h; omega
    have hnew : c'.G n = some w.heap.size := by simp [c']
    refine ⟨c', ew, ?_, ?_, fun b hne h => by simp only [c', if_neg hne]; exact h⟩
    · cases hf with
      | box cells arr e hl hc =>
        refine hs.keepW ew hinj hbase hdom (fun b cb cs hb' hg' => ?_) (fun b cb e1 s1 z1 g1 l1 hb' hg' => ?_) (fun b cb s1 p1 hb' hg' => ?_)
        · by_cases hne : b = n
          · subst hne
            rw [hb] at hb'; cases hb'
            rw [hhere cb hg']
            exact .inr ⟨arr, e, heap_alloc_new w _, hl, fun j x v hj hv => ⟨(hc j x v hj hv).1, (hc j x v hj hv).2.1.ew ew, (hc j x v hj hv).2.2⟩⟩
          · exact .inl ⟨hb', hold b cb hne hg'⟩
        · by_cases hne : b = n
          · subst hne; rw [hb] at hb'; cases hb'
          · exact .inl ⟨hb', hold b cb hne hg'⟩
        · by_cases hne : b = n
          · subst hne; rw [hb] at hb'; cases hb'
          · exact .inl ⟨hb', hold b cb hne hg'⟩
      | arr e s len l arr hl hn hm hc =>
        refine hs.keepW ew hinj hbase hdom (fun b cb cs hb' hg' => ?_) (fun b cb e1 s1 z1 g1 l1 hb' hg' => ?_) (fun b cb s1 p1 hb' hg' => ?_)
        · by_cases hne : b = n
          · subst hne; rw [hb] at hb'; cases hb'
          · exact .inl ⟨hb', hold b cb hne hg'⟩
        · by_cases hne : b = n
          · subst hne
            rw [hb] at hb'; cases hb'
            rw [hhere cb hg']
            exact .inr ⟨arr, len, heap_alloc_new w _, hl, by omega, hm, hc.ew ew⟩
          · exact .inl ⟨hb', hold b cb hne hg'⟩
        · by_cases hne : b = n
          · subst hne; rw [hb] at hb'; cases hb'
          · exact .inl ⟨hb', hold b cb hne hg'⟩
    · cases hf with
      | box cells arr e hl hc => exact .ptr _ _ _ _ _ _ hb ⟨_, hnew, rfl⟩
      | arr e s len l arr hl hn hm hc =>
        refine .sl _ _ _ _ _ _ hb ⟨Nat.le_refl _, fun _ => ⟨by omega, .inr <| .inr ⟨by simp, w.heap.size, len, 0, hnew, rfl, ?_, Nat.le_refl _, by omega, .inr (by simp), fun _ => rfl⟩⟩⟩
        rw [rowSize_alloc, hl, Nat.zero_add]
  · cases hf with
    | box => simp [Blk.fix] at hfix
    | arr e s len l arr hl hn hm hc =>
      simp only [Blk.fix, Bool.not_false, Bool.true_and, decide_eq_true_eq] at hfix
      have hl0 : l.length = 0 := by omega
      have hlen : len = 0 := by omega
      subst hlen
      have ew : Ew w c H (w.alloc (.cells arr e (0, 0))) c H := by
        refine ⟨rfl, by simp, fun b bk hb' => ⟨bk, hb', ?_⟩, fun cb hm => .inl hm, fun cb hlt _ => heap_old w _ cb hlt⟩
        cases bk with
        | dead => trivial
        | box cs => exact ⟨rfl, fun _ h => h⟩
        | iter s p => exact ⟨rfl, fun _ h => h⟩
        | arr e s z g l =>
          refine ⟨rfl, rfl, rfl, Nat.le_refl _, Nat.le_refl _, fun _ => ⟨rfl, fun cb hc => ⟨hc, ?_⟩⟩⟩
          unfold rowSize
          rw [heap_old w _ cb (hs.base b cb hc).2]
      refine ⟨c, ew, hs.keepW ew hs.inj (fun b cb h => by have := hs.base b cb h; exact ⟨this.1, by simp; omega⟩) hs.dom (fun b cb cs hb' hg' => .inl ⟨hb', hg', heap_old w _ cb (hs.base b cb hg').2⟩) (fun b cb e1 s1 z1 g1 l1 hb' hg' => .inl ⟨hb', hg', heap_old w _ cb (hs.base b cb hg').2⟩) (fun b cb s1 p1 hb' hg' => .inl ⟨hb', hg', heap_old w _ cb (hs.base b cb hg').2⟩), ?_, fun _ _ h => h⟩
      exact .sl _ _ _ _ _ _ hb ⟨Nat.le_refl _, fun _ => ⟨by omega, .inr (.inl ⟨rfl, hl0, _, rfl⟩)⟩⟩

end
end Go.Proofs.YthpkehhghcpolaaDoor
