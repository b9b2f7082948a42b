/-
  Slices, new memory, stores, appends.
-/
import Derived.Test.YthpkehhghcpolaaDoorOps2
namespace Go.Proofs.YthpkehhghcpolaaDoor
open Go.RowKit
set_option linter.unusedVariables false
set_option linter.unusedSimpArgs false

section
variable {P : Program} {w : World}

theorem xbound_some {v : AV} {d most : Nat} {K : Nat → Prop} (h : xbound (some v) d most K) {c H u} (hv : RA w c H v u) : ∃ k n, u = .int k n ∧ 0 ≤ n ∧ n ≤ (most : Int) ∧ K n.toNat := by
  unfold xbound at h
  split at h
  · rename_i h0; cases h0
  · rename_i k n h0
    cases h0
    rw [ck_iff] at h
    obtain ⟨hc, h⟩ := h
    simp at hc
    exact ⟨_, _, hv.int, hc.1, hc.2, h⟩
  · exact h.elim

/-- An operand that may be missing. -/
inductive RO (w : World) (c : Cx) (H : AH) : Option AV → Option Value → Prop
  | no : RO w c H none none
  | yes (a v) (h : RA w c H a v) : RO w c H (some a) (some v)

/-- The bounds of a slice expression with two of them. -/
theorem xbounds_ok {lo hi : Option AV} {lv hv : Option Value} {c H} {n most : Nat} {K : Nat → Nat → Prop} (isS : Bool)
    (hlo : RO w c H lo lv) (hhi : RO w c H hi hv)
    (hn : n ≤ most) (cap : Nat) (hmost : most ≤ cap) (h : xbound hi n most fun h => xbound lo 0 h fun l => K l h) :
    ∃ l h, l ≤ h ∧ h ≤ most ∧ (Instr.sliceBounds isS n cap lv hv none).run P w = .ok (l, h, cap) w ∧ K l h := by
  cases hhi with
  | no =>
    replace h : xbound lo 0 n fun l => K l n := h
    cases hlo with
    | no => exact ⟨0, n, Nat.zero_le _, hn, by simp [Instr.sliceBounds], h⟩
    | yes a u hu =>
      obtain ⟨k, m, rfl, h0, h1, h2⟩ := xbound_some h hu
      exact ⟨m.toNat, n, by omega, hn, by simp [Instr.sliceBounds, run_sliceBound w k m n _ h0 (by omega)], h2⟩
  | yes b v hv =>
    obtain ⟨k', m', rfl, h0', h1', h2'⟩ := xbound_some h hv
    cases hlo with
    | no => exact ⟨0, m'.toNat, Nat.zero_le _, by omega, by simp [Instr.sliceBounds, run_sliceBound w k' m' cap _ h0' (by omega)], h2'⟩
    | yes a u hu =>
      obtain ⟨k, m, rfl, h0, h1, h2⟩ := xbound_some h2' hu
      exact ⟨m.toNat, m'.toNat, by omega, by omega, by simp [Instr.sliceBounds, run_sliceBound w k' m' cap _ h0' (by omega), run_sliceBound w k m m'.toNat _ h0 (by omega)], h2⟩

theorem room_cases (gen s i n len : Nat) : room gen s i n len = n ∨ (gen % 2 = 1 ∧ 1 ≤ s ∧ room gen s i n len = len - i) := by
  unfold room
  split
  · rename_i h
    simp only [Bool.and_eq_true] at h
    exact .inr ⟨Nat.eq_of_beq_eq_true h.1, Nat.le_of_ble_eq_true h.2, rfl⟩
  · exact .inl rfl

theorem RO.int0 {c H k v} (h : RO w c H (some (.t (.int k 0))) v) : v = some (.int k 0) := by cases h with | yes _ _ h => rw [h.int]

theorem xslice_ok {tab : Tab} (hT : TabOK P tab) {t : TypeId} {c H B a v} {lo hi mx : Option AV} {lv hv mv : Option Value} {K : AV → Prop} (hs : HS w c H B) (h : xslice tab t H a lo hi mx K) (ha : RA w c H a v)
    (hlo : RO w c H lo lv) (hhi : RO w c H hi hv) (hmx : RO w c H mx mv) :
    ∃ x val, (Instr.sliceAt t v lv hv mv).run P w = .ok val w ∧ RA w c H x val ∧ K x := by
  unfold xslice at h
  rw [opt_iff] at h
  obtain ⟨y, hy, h⟩ := h
  have hd := (hT t y hy).d
  split at h
  · rename_i m
    split at h
    · rename_i e k1 k2 k3 he
      rw [he] at hd
      rw [opt_iff] at h
      obtain ⟨z, hz, h⟩ := h
      obtain rfl := hlo.int0
      obtain rfl := hhi.int0
      obtain rfl := hmx.int0
      have hz' := run_sizeOf hT hz w
      have run : ∀ a0 n cap, (Instr.sliceAt t (.slice a0 n cap) (some (.int k1 0)) (some (.int k2 0)) (some (.int k3 0))).run P w = .ok (.slice a0 0 0) w := by
        intro a0 n cap
        simp [Instr.sliceAt, Instr.slice, run_underlying hd, Instr.sliceBounds, Instr.sliceBound, asIntOf, hz']
      split at h
      · cases ha with | t _ _ ha => cases ha; exact ⟨_, _, run _ _ _, .t _ _ .nils, h⟩
      · cases ha with | t _ _ ha => cases ha; exact ⟨_, _, run _ _ _, .emp _, h⟩
      · cases ha; exact ⟨_, _, run _ _ _, .emp _, h⟩
      · rename_i b g i n
        cases ha with | sl _ _ _ _ _ blk hb hm =>
        rw [hb] at h
        cases blk with
        | dead => exact h.elim
        | box => exact h.elim
        | iter => exact h.elim
        | arr e' s z' gen l0 =>
          simp only at h
          rw [ck_iff] at h
          obtain ⟨hc, h⟩ := h
          obtain ⟨hlen, hm2⟩ := hm.2 (Nat.eq_of_beq_eq_true hc)
          rw [br_iff] at h
          rcases hm2 with ⟨z1, l1, rfl⟩ | ⟨z1, l1, ad, rfl⟩ | ⟨hne, cb, cap, off, hg, rfl, _⟩
          · rcases h with ⟨_, h⟩ | ⟨h0, _⟩
            · exact ⟨_, _, run _ _ _, .t _ _ .nils, h⟩
            · simp [z1, l1] at h0
          · rcases h with ⟨h0, _⟩ | ⟨_, h⟩
            · simp [z1] at h0
            · exact ⟨_, _, run _ _ _, .emp _, h⟩
          · rcases h with ⟨h0, _⟩ | ⟨_, h⟩
            · simp at h0; exact (hne h0).elim
            · exact ⟨_, _, run _ _ _, .emp _, h⟩
      · exact h.elim
    · exact h.elim
  · cases hmx
    split at h
    · rename_i s he
      rw [he] at hd
      obtain ⟨bs, rfl, rfl⟩ := ha.str
      obtain ⟨l, h', hl, hh, run, k⟩ := xbounds_ok (P := P) false hlo hhi (Nat.le_refl _) bs.size (Nat.le_of_eq rfl) h
      refine ⟨_, .string (bs.extract l h'), by simp [Instr.sliceAt, Instr.slice, run_underlying hd, run], .t _ _ ?_, k⟩
      have e : (bs.data.toList.drop l).take (h' - l) = (bs.extract l h').data.toList := by
        rw [ByteArray.data_extract]; simp [List.extract, Array.toList_extract]
      rw [e]; exact .str _
    · rename_i e s l0 he
      rw [he] at hd
      rw [opt_iff] at h
      obtain ⟨z, hz, h⟩ := h
      rw [ck_iff] at h
      obtain ⟨hsz, h⟩ := h
      have hsz := Nat.eq_of_beq_eq_true hsz
      cases ha with | t _ _ ha => cases ha with | vec _ _ b off cap sp vals hM hcap hsp hss hc hr =>
      obtain ⟨l, h', hl, hh, run, k⟩ := xbounds_ok (P := P) true hlo hhi (Nat.le_refl _) cap hcap h
      have hz' := run_sizeOf hT hz w
      by_cases hl0 : l0 = []
      · subst hl0
        have e1 : h' = 0 := by simpa using hh
        have e2 : l = 0 := by omega
        subst e1 e2
        have hrun : (Instr.sliceAt t (.slice (some ⟨b, off, sp⟩) ([] : List T).length cap) lv hv none).run P w = .ok (.slice (some ⟨b, off, sp⟩) ([] : List T).length cap) w := by
          have run0 : (Instr.sliceBounds true 0 cap lv hv none).run P w = .ok (0, 0, cap) w := run
          simp [Instr.sliceAt, Instr.slice, run_underlying hd, run0, hz', Addr.add]
        exact ⟨_, _, hrun, .t _ _ (.vec s _ b off cap sp vals hM hcap hsp hss hc hr), k⟩
      obtain rfl := hsp hl0
      have hrun : (Instr.sliceAt t (.slice (some ⟨b, off, none⟩) l0.length cap) lv hv none).run P w = .ok (.slice (if cap = l then some ⟨b, off, none⟩ else some ⟨b, off + l * z.size, none⟩) (h' - l) (cap - l)) w := by
        simp [Instr.sliceAt, Instr.slice, run_underlying hd, run, hz', Addr.add_lit]
      have hlen : ((l0.drop l).take (h' - l)).length = h' - l := by simp; omega
      by_cases hcl : cap = l
      · have : h' - l = 0 := by omega
        refine ⟨_, _, hrun, .t _ _ ?_, k⟩
        have e0 : (l0.drop l).take (h' - l) = [] := List.eq_nil_of_length_eq_zero (by omega)
        rw [e0, if_pos hcl, this]
        exact .vec s [] b off (cap - l) none (fun _ _ => undef) (by simp) (by simp) (by simp) (by simp) (by simp) (by simp)
      · refine ⟨_, _, hrun, .t _ _ ?_, k⟩
        rw [if_neg hcl]
        have := RT.vec (w := w) (M := c.M H) s ((l0.drop l).take (h' - l)) b (off + l * z.size) (cap - l) none (fun i j => vals (l + i) j) (fun hne => hM (fun e => hne (by simp [e]))) (by omega) (fun _ => rfl)
          (fun i e hi => hss _ e (getElem?_take_drop hi).2)
          (fun i e j x hi hj => by
            have := hc _ e j x (getElem?_take_drop hi).2 hj
            rw [← hsz, show off + l * s + i * s + j = off + (l + i) * s + j by rw [Nat.add_mul]; omega]
            exact this)
          (fun i e j x hi hj => hr _ e j x (getElem?_take_drop hi).2 hj)
        rw [hlen] at this
        exact this
    · rename_i e he
      rw [he] at hd
      rw [opt_iff] at h
      obtain ⟨z, hz, h⟩ := h
      cases ha with | t _ _ ha =>
      cases ha
      obtain ⟨l, h', hl, hh, run, k⟩ := xbounds_ok (P := P) (K := fun _ _ => K (.t .nils)) true hlo hhi (Nat.le_refl _) 0 (Nat.le_refl _) h
      have l0 : l = 0 := by omega
      have h0 : h' = 0 := by omega
      subst l0 h0
      exact ⟨_, _, by simp [Instr.sliceAt, Instr.slice, run_underlying hd, run, run_sizeOf hT hz w], .t _ _ .nils, k⟩
    · rename_i e b g i n he
      rw [he] at hd
      rw [opt_iff] at h
      obtain ⟨z, hz, h⟩ := h
      cases ha with | sl _ _ _ _ _ blk hb hm =>
      rw [hb] at h
      cases blk with
      | dead => exact h.elim
      | box => exact h.elim
      | iter => exact h.elim
      | arr e' s z' gen l0 =>
        simp only at h
        rw [ck_iff] at h
        obtain ⟨hc, h⟩ := h
        simp only [Bool.and_eq_true] at hc
        have hg1 := Nat.eq_of_beq_eq_true hc.1
        have hs1 := Nat.eq_of_beq_eq_true hc.2
        have hz' := run_sizeOf hT hz w
        obtain ⟨hlen, hm2⟩ := hm.2 hg1
        rcases hm2 with ⟨z1, l1, rfl⟩ | ⟨z1, l1, ad, rfl⟩ | ⟨hne, cb, cap, off, hg, rfl, hsz', hcap, hmx, hoff, hoff0⟩
        · have hn0 : n = 0 := by rw [l1] at hlen; simp at hlen; omega
          have hi0 : i = 0 := by rw [l1] at hlen; simp at hlen; omega
          subst hn0 hi0
          have hr0 : room gen s 0 0 l0.length = 0 := by rcases room_cases gen s 0 0 l0.length with h | ⟨_, _, h⟩ <;> omega
          rw [hr0] at h
          obtain ⟨l, h', hl, hh, run, k⟩ := xbounds_ok (P := P) true hlo hhi (Nat.le_refl _) 0 (Nat.le_refl _) h
          have l0' : l = 0 := by omega
          have h0 : h' = 0 := by omega
          subst l0' h0
          exact ⟨_, .slice none 0 0, by simp [Instr.sliceAt, Instr.slice, run_underlying hd, run, hz'], .sl _ _ _ _ _ _ hb ⟨hm.1, fun _ => ⟨by simp [l1], .inl ⟨z1, l1, rfl⟩⟩⟩, k⟩
        · have hn0 : n = 0 := by rw [l1] at hlen; simp at hlen; omega
          have hi0 : i = 0 := by rw [l1] at hlen; simp at hlen; omega
          subst hn0 hi0
          have hr0 : room gen s 0 0 l0.length = 0 := by rcases room_cases gen s 0 0 l0.length with h | ⟨_, _, h⟩ <;> omega
          rw [hr0] at h
          obtain ⟨l, h', hl, hh, run, k⟩ := xbounds_ok (P := P) true hlo hhi (Nat.le_refl _) 0 (Nat.le_refl _) h
          have l0' : l = 0 := by omega
          have h0 : h' = 0 := by omega
          subst l0' h0
          exact ⟨_, .slice (some ad) 0 0, by simp [Instr.sliceAt, Instr.slice, run_underlying hd, run, hz'], .sl _ _ _ _ _ _ hb ⟨hm.1, fun _ => ⟨by simp [l1], .inr (.inl ⟨z1, l1, ad, rfl⟩)⟩⟩, k⟩
        · obtain ⟨arr0, cap0, h10, h20, h30, h40, h50⟩ := hs.arr b cb e' s z' gen l0 hb hg
          have hrc : n ≤ room gen s i n l0.length ∧ room gen s i n l0.length ≤ cap ∧ i + room gen s i n l0.length ≤ l0.length := by
            rcases room_cases gen s i n l0.length with h | ⟨hg2, hs2, h⟩
            · omega
            · have : i + cap = cap0 := by
                simp only [rowSize, h10] at hsz'
                rw [h20] at hsz'
                exact Nat.eq_of_mul_eq_mul_right (by omega) hsz'
              have := h30.2 hg2
              omega
          obtain ⟨l, h', hl, hh, run, k⟩ := xbounds_ok (P := P) true hlo hhi hrc.1 cap hrc.2.1 h
          have hrun : (Instr.sliceAt t (.slice (some ⟨cb, off, none⟩) n cap) lv hv none).run P w = .ok (.slice (if cap = l then some ⟨cb, off, none⟩ else some ⟨cb, off + l * z.size, none⟩) (h' - l) (cap - l)) w := by
            simp [Instr.sliceAt, Instr.slice, run_underlying hd, run, hz', Addr.add_lit]
          refine ⟨_, _, hrun, .sl _ _ _ _ _ _ hb ⟨hm.1, fun _ => ⟨by omega, .inr <| .inr ⟨hne, cb, cap - l, (if cap = l then off else off + l * z.size), hg, by split <;> rfl, ?_, by omega, by omega, ?_, ?_⟩⟩⟩, k⟩
          · rw [← hsz']; congr 1; omega
          · by_cases hcl : cap = l
            · left; omega
            · right; rw [if_neg hcl, hoff.resolve_left (by omega), ← hs1, Nat.add_mul]
          · intro hil
            have : i = 0 := by omega
            have hl0 : l = 0 := by omega
            subst this hl0
            simp [hoff0 rfl]
    · exact h.elim

theorem xextract_ok {c H x v i} {K : AV → Prop} (h : xextract x i K) (hx : RA w c H x v) : ∃ y val, (Instr.extract v i).run P w = .ok val w ∧ RA w c H y val ∧ K y := by
  unfold xextract at h
  split at h
  · rename_i vs
    rw [opt_iff] at h
    obtain ⟨a, ha, h⟩ := h
    cases hx with | tup _ us hl hr =>
    obtain ⟨u, hu⟩ := arr_get (a := us) (i := i) (by have := lt_of_getElem? ha; omega)
    exact ⟨a, u, by simp [Instr.extract, hu], hr i a u ha hu, h⟩
  · exact h.elim

theorem RT.oneCell {M x v} (h : RT w M x v) (h1 : x.one = true) : v.oneCell' = true ∧ v.cells = #[v] := by
  cases h <;> first | exact ⟨rfl, rfl⟩ | (simp [T.one] at h1)

theorem RA.oneCell {c H x v} (h : RA w c H x v) (h1 : x.one = true) : v.oneCell' = true ∧ v.cells = #[v] := by
  cases h with
  | t x v hx => exact hx.oneCell h1
  | ptr b g i o v blk hb hm hv => obtain ⟨a, rfl⟩ := hv; exact ⟨rfl, rfl⟩
  | sl b g i n v blk hb hm hv => obtain ⟨a, n, m, rfl⟩ := hv; exact ⟨rfl, rfl⟩
  | agg => simp [AV.one] at h1
  | tup => simp [AV.one] at h1
  | junk => simp [AV.one] at h1
  | fn => exact ⟨rfl, rfl⟩
  | ifc => exact ⟨rfl, rfl⟩
  | emp => exact ⟨rfl, rfl⟩

/-- A value, cell by cell. -/
theorem RA.cells {c H x v} (h : RA w c H x v) (h1 : x.cells.all AV.one = true) : x.cells.length = v.cells.size ∧
    ∀ (j : Nat) y u, x.cells[j]? = some y → v.cells[j]? = some u → y.one = true ∧ RA w c H y u ∧ u.oneCell' = true := by
  have all : ∀ (j : Nat) y, x.cells[j]? = some y → y.one = true := fun j y hj => by
    rw [List.all_eq_true] at h1
    exact h1 y (List.mem_of_getElem? hj)
  have single : x.cells = [x] → x.cells.length = v.cells.size ∧ ∀ (j : Nat) y u, x.cells[j]? = some y → v.cells[j]? = some u → y.one = true ∧ RA w c H y u ∧ u.oneCell' = true := by
    intro hx
    have hx1 := all 0 x (by rw [hx]; rfl)
    obtain ⟨o1, o2⟩ := h.oneCell hx1
    rw [hx, o2]
    refine ⟨rfl, fun j y u hj hu => ?_⟩
    cases j with
    | zero => simp at hj hu; subst hj hu; exact ⟨hx1, h, o1⟩
    | succ j => simp at hj
  cases h with
  | agg cs vs hl h2 hr =>
    exact ⟨hl, fun j y u hj hu => ⟨all j y hj, hr j y u hj hu, ((hr j y u hj hu).oneCell (all j y hj)).1⟩⟩
  | t x v hx =>
    cases hx with
    | agg cs vs hl h2 hr =>
      refine ⟨by simp only [AV.cells, List.length_map]; exact hl, fun j y u hj hu => ?_⟩
      have hy := all j y hj
      simp only [AV.cells, List.getElem?_map, Option.map_eq_some_iff] at hj
      obtain ⟨z, hz, rfl⟩ := hj
      exact ⟨hy, .t _ _ (hr j z u hz hu), ((hr j z u hz hu).oneCell hy).1⟩
    | _ => exact single rfl
  | _ => exact single rfl

/-- A value of data alone, cell by cell. -/
theorem toTs_spec : ∀ {cs : List AV} {l : List T}, toTs cs = some l → cs = l.map .t
  | [], l, h => by simp [toTs] at h; subst h; rfl
  | a :: r, l, h => by
    simp only [toTs] at h
    split at h
    · rename_i x l' hx hl'
      cases h
      have ha : a = .t x := by cases a <;> simp [toT1] at hx; rw [hx]
      rw [ha, toTs_spec hl']; rfl
    · cases h

theorem xpick_ok {c H x y z u v t} {K : AV → Prop} (h : xpick x y z K) (hx : RA w c H x u) (hy : RA w c H y v) (hz : RA w c H z t) (ρu : asBool u = pure true ∨ asBool u = pure false ∨ True) :
    ∃ b a val, u = .bool b ∧ val = (if b then v else t) ∧ RA w c H a val ∧ K a := by
  unfold xpick at h
  split at h
  · rename_i b
    obtain rfl := hx.bool
    split at h
    · rename_i p q
      obtain rfl := hy.bool
      obtain rfl := hz.bool
      cases b
      · exact ⟨_, _, _, rfl, rfl, hz, h⟩
      · exact ⟨_, _, _, rfl, rfl, hy, h⟩
    · rw [br_iff] at h
      rcases h with ⟨rfl, h⟩ | ⟨rfl, h⟩
      · exact ⟨_, _, _, rfl, rfl, hy, h⟩
      · exact ⟨_, _, _, rfl, rfl, hz, h⟩
  · exact h.elim

theorem xassign_ok {tab : Tab} {t : TypeId} {c H B x v} {K : AV → AH → Prop} (hs : HS w c H B) (h : xassign tab t x H K) (hx : RA w c H x v) : MOut P (pure v) w c H B K := by
  have keep : K x H → MOut P (pure v) w c H B K := fun k => .here hs rfl hx k
  unfold xassign at h
  split at h
  · split at h
    · split at h
      · split at h
        · split at h
          · rename_i x1 y hy x2 e he x3 z hz x4 hb
            cases hx with | t _ _ hx =>
            cases hx
            obtain ⟨ev, hs'⟩ := new_none hs (.arr e z.size true 0 (.ts []))
            exact ⟨_, _, w, c, _, rfl, .sl H.length 0 0 0 _ (.arr e z.size true 0 (.ts [])) getElem?_snoc_eq ⟨Nat.le_refl _, fun _ => ⟨by simp [Sq.length], .inl ⟨rfl, rfl, rfl⟩⟩⟩, hs', ev, Below.refl _ _, h⟩
          · exact keep h
        · exact keep h
      · exact keep h
    · exact keep h
  · exact keep h

/-- Values that a nil check lets by. -/
def derefs : Value → Bool
  | .pointer none => false
  | .nilIface => false
  | .nilFunc => false
  | .func (.method _) _ _ => false
  | _ => true

theorem exec_nilCheck {ρ : Operand → Value} {o : Oper} {x : Operand} (ho : o.op = .nilCheck x) (h : derefs (ρ x) = true) : execOp ρ o = pure (.value (ρ x)) := by
  unfold execOp
  rw [ho]
  simp only []
  generalize ρ x = u at h ⊢
  cases u with
  | pointer a => cases a <;> first | rfl | (simp [derefs] at h)
  | nilIface => simp [derefs] at h
  | nilFunc => simp [derefs] at h
  | func f a b => cases f <;> first | rfl | (simp [derefs] at h)
  | _ => rfl

theorem xnilCheck_ok {c H x v} {K : AV → Prop} (h : xnilCheck H x K) (hx : RA w c H x v) : derefs v = true ∧ K x := by
  unfold xnilCheck at h
  split at h
  · cases hx with | t _ _ hx =>
    cases hx
    exact ⟨rfl, h⟩
  · cases hx with | ptr _ _ _ _ _ blk hb hm hv =>
    rw [hb] at h
    cases blk with
    | dead => exact h.elim
    | iter => exact h.elim
    | box cells => obtain ⟨cb, _, rfl⟩ := hm; exact ⟨rfl, h⟩
    | arr e s z gen l =>
      simp only at h
      rw [ck_iff] at h
      obtain ⟨hg, h⟩ := h
      obtain ⟨cb, _, rfl⟩ := hm.2 (Nat.eq_of_beq_eq_true hg)
      exact ⟨rfl, h⟩
  · cases hx with | t _ _ hx =>
    cases hx
    exact ⟨rfl, h⟩
  · cases hx
    exact ⟨rfl, h⟩
  · exact h.elim

/-- The cells of a list, put in from a place on. -/
theorem setAt_length {α : Type} : ∀ (cs l : List α) (o : Nat), (setAt l o cs).length = l.length
  | [], l, o => rfl
  | x :: r, l, o => by simp [setAt, setAt_length r]

theorem setAt_get {α : Type} : ∀ (cs l : List α) (o i : Nat), o + cs.length ≤ l.length → (setAt l o cs)[i]? = if o ≤ i ∧ i < o + cs.length then cs[i - o]? else l[i]?
  | [], l, o, i, _ => by simp [setAt]; intro h1 h2; omega
  | x :: r, l, o, i, h => by
    simp only [setAt]
    rw [setAt_get r (l.set o x) (o + 1) i (by simp at h ⊢; omega)]
    simp only [List.length_cons] at h ⊢
    by_cases h1 : i = o
    · subst h1
      have : ¬ (i + 1 ≤ i ∧ i < i + 1 + r.length) := by omega
      rw [if_neg this, if_pos (by omega), List.getElem?_set_self (by omega)]
      simp
    · by_cases h2 : o + 1 ≤ i ∧ i < o + 1 + r.length
      · rw [if_pos h2, if_pos (by omega)]
        rw [show i - o = (i - (o + 1)) + 1 by omega, List.getElem?_cons_succ]
      · rw [if_neg h2, if_neg (by omega), List.getElem?_set_ne (by omega)]

theorem seg_get {vs : List Value} {arr : Array Value} {o i : Nat} (h : o + vs.length ≤ arr.size) :
    (arr.toList.take o ++ vs ++ arr.toList.drop (o + vs.length)).toArray[i]? = if o ≤ i ∧ i < o + vs.length then vs[i - o]? else arr[i]? := by
  simp only [List.getElem?_toArray]
  by_cases h1 : i < o
  · rw [if_neg (by omega), List.append_assoc, List.getElem?_append_left (by simp; omega), List.getElem?_take_of_lt h1]; simp
  · by_cases h2 : i < o + vs.length
    · rw [if_pos (by omega), List.append_assoc, List.getElem?_append_right (by simp; omega), List.getElem?_append_left (by simp; omega)]
      congr 1; simp; omega
    · rw [if_neg (by omega), List.getElem?_append_right (by simp; omega), List.getElem?_drop]
      simp only [List.length_append, List.length_take, Array.length_toList, Array.getElem?_toList]
      congr 1; omega

theorem seg_size {vs : List Value} {arr : Array Value} {o : Nat} (h : o + vs.length ≤ arr.size) : (arr.toList.take o ++ vs ++ arr.toList.drop (o + vs.length)).toArray.size = arr.size := by
  simp; omega

theorem run_storeVar {tab : Tab} (hT : TabOK P tab) {t : TypeId} {y : TyI} (hy : tab t = some y) {cb o : Nat} {arr : Array Value} {e : TypeId} (hc : w.heap[cb]? = some (.cells arr e (0, 0))) {v : Value}
    (hsz : v.cells.size = y.size) (hfit : o + y.size ≤ arr.size) (h1 : ∀ u ∈ v.cells.toList, u.oneCell' = true) :
    (storeVar t ⟨cb, o, none⟩ v).run P w = .ok () (w.setRow cb (arr.toList.take o ++ v.cells.toList ++ arr.toList.drop (o + v.cells.toList.length)).toArray) := by
  have hst := run_storeCells_at P cb o e v.cells.toList 0 arr w hc (by simp; omega) h1
  simp only [Nat.add_zero] at hst
  simp only [storeVar, Sem.run_bind, run_sizeOf hT hy, Result.andThen_ok, hsz, ne_eq, not_true_eq_false, if_false]
  exact hst

theorem below_setRow' {w : World} {B cb : Nat} (h : B ≤ cb) (arr : Array Value) : Below B w (w.setRow cb arr) :=
  ⟨rfl, rfl, rfl, by simp, fun k hk => setRow_other w cb k arr (by omega)⟩

theorem T.cells_one {x : T} (h : x.one = true) : x.cells = [x] := by cases x <;> first | rfl | (simp [T.one] at h)

theorem setCells_cells {x : T} {o : Nat} {cs : List T} (h : o + cs.length ≤ x.cells.length) (h1 : cs.all T.one = true) : (setCells x o cs).cells = setAt x.cells o cs := by
  cases x with
  | agg l => rfl
  | _ =>
    cases cs with
    | nil => rfl
    | cons c r =>
      have hr : r = [] := by
        cases r with
        | nil => rfl
        | cons => exfalso; simp [T.cells] at h; omega
      subst hr
      have ho : o = 0 := by simp [T.cells] at h; exact h
      subst ho
      simp at h1
      simp only [setCells, T.cells_one h1]
      rfl

theorem setAt_map {α β : Type} (f : α → β) : ∀ (cs l : List α) (o : Nat), (setAt l o cs).map f = setAt (l.map f) o (cs.map f)
  | [], l, o => rfl
  | c :: r, l, o => by simp only [setAt, List.map_cons]; rw [setAt_map f r, List.map_set]

def one? (x : AV) : List AV → AV
  | [c] => c
  | _ => x

theorem setCellsA_single {x : AV} {o : Nat} {cs : List AV} (h : o + cs.length ≤ x.cells.length) (h1 : cs.all AV.one = true) (hx : x.cells = [x]) : (one? x cs).cells = setAt x.cells o cs := by
  cases cs with
  | nil => rfl
  | cons c r =>
    have hl : x.cells.length = 1 := by rw [hx]; rfl
    have hr : r = [] := List.length_eq_zero_iff.1 (by simp at h; omega)
    subst hr
    have ho : o = 0 := by simp at h; omega
    subst ho
    simp only [List.all_cons, List.all_nil, Bool.and_true] at h1
    rw [hx]
    simp only [setAt, one?]
    cases c with
    | t c => rw [T.cells_t, T.cells_one h1]; rfl
    | agg => simp [AV.one] at h1
    | tup => simp [AV.one] at h1
    | junk => simp [AV.one] at h1
    | own => simp [AV.one] at h1
    | _ => rfl

theorem setCellsA_cells {x : AV} {o : Nat} {cs : List AV} (h : o + cs.length ≤ x.cells.length) (h1 : cs.all AV.one = true) : (setCellsA x o cs).cells = setAt x.cells o cs := by
  have he : ∀ {x : AV}, (∀ o cs, setCellsA x o cs = one? x cs) → x.cells = [x] → o + cs.length ≤ x.cells.length → (setCellsA x o cs).cells = setAt x.cells o cs := fun e hx h => by
    rw [e]; exact setCellsA_single h h1 hx
  cases x with
  | agg l => rfl
  | t x => cases x <;> first | rfl | exact he (fun _ _ => rfl) rfl h
  | _ => exact he (fun _ _ => rfl) rfl h

theorem xstore_ok {tab : Tab} (hT : TabOK P tab) {t : TypeId} {c H B a x v u} {K : AH → Prop} (hs : HS w c H B) (h : xstore tab t H a x K) (ha : RA w c H a v) (hx : RA w c H x u) :
    ∃ w' H', (Instr.storeAt t v u).run P w = .ok () w' ∧ HS w' c H' B ∧ Ev w c H w' c H' ∧ Below B w w' ∧ K H' := by
  unfold xstore at h
  rw [opt_iff] at h
  obtain ⟨y, hy, h⟩ := h
  split at h
  · rename_i b g i o
    cases ha with | ptr _ _ _ _ _ blk hb hm hv =>
    rw [hb] at h
    cases blk with
    | dead => exact h.elim
    | iter => exact h.elim
    | box cells =>
      simp only at h
      rw [ck_iff] at h
      obtain ⟨hc, h⟩ := h
      simp only [Bool.and_eq_true] at hc
      have c1 := Nat.eq_of_beq_eq_true hc.1.1
      have c2 := Nat.le_of_ble_eq_true hc.1.2
      obtain ⟨cl, cr⟩ := hx.cells hc.2
      obtain ⟨cb, hg, rfl⟩ := hm
      obtain ⟨arr, e, h1, h2, h3⟩ := hs.box b cb cells hb hg
      have hone : ∀ z ∈ u.cells.toList, z.oneCell' = true := fun z hz => by
        obtain ⟨j, hj, rfl⟩ := List.getElem_of_mem hz
        have hj' : j < u.cells.size := by simpa using hj
        exact (cr j _ _ (List.getElem?_eq_getElem (by omega)) (by simp [hj'])).2.2
      have hfit : o + u.cells.toList.length ≤ arr.size := by simp; omega
      have run := run_storeVar (P := P) hT hy h1 (o := o) (by omega) (by omega) hone
      obtain ⟨ev, hs'⟩ := set_box hs hb hg h1 (seg_size hfit) h2 (setAt_length x.cells cells o) (fun j y' v' hj hv' => by
        rw [setAt_get _ _ _ _ (by omega)] at hj
        rw [seg_get hfit] at hv'
        have hlen : x.cells.length = u.cells.toList.length := by simpa using cl
        by_cases hin : o ≤ j ∧ j < o + x.cells.length
        · rw [if_pos hin] at hj
          rw [if_pos (by omega)] at hv'
          exact cr _ _ _ hj (by simpa using hv')
        · rw [if_neg hin] at hj
          rw [if_neg (by omega)] at hv'
          exact h3 j y' v' hj hv')
      exact ⟨_, _, by simpa [Instr.storeAt, Instr.sureAddr] using run, hs', ev, below_setRow' (hs.base b cb hg).1 _, h⟩
    | arr e s z gen l =>
      have row : ∀ x0 x' l', g.beq gen = true → l.get i = some x0 → l'.length = l.length → (∀ k, l'.get k = if k = i then some x' else l.get k) → x'.cells = setAt x0.cells o x.cells →
          x.cells.length = y.size → o + y.size ≤ x0.cells.length → x.cells.all AV.one = true → K (H.set b (.arr e s z gen l')) →
          ∃ w' H', (Instr.storeAt t v u).run P w = .ok () w' ∧ HS w' c H' B ∧ Ev w c H w' c H' ∧ Below B w w' ∧ K H' := by
        intro x0 x' l' hgg hx0 hll hget hcells c1 c2 hall h
        obtain ⟨cl, cr⟩ := hx.cells hall
        obtain ⟨cb, hg, rfl⟩ := hm.2 (Nat.eq_of_beq_eq_true hgg)
        obtain ⟨arr, cap, h1, h2, h3, h4, h5⟩ := hs.arr b cb e s z gen l hb hg
        obtain ⟨h6, h7⟩ := h5 i x0 hx0
        have hone : ∀ z ∈ u.cells.toList, z.oneCell' = true := fun z hz => by
          obtain ⟨j, hj, rfl⟩ := List.getElem_of_mem hz
          have hj' : j < u.cells.size := by simpa using hj
          exact (cr j _ _ (List.getElem?_eq_getElem (by omega)) (by simp [hj'])).2.2
        have hil := Sq.get_lt hx0
        have hrow : i * s + s ≤ arr.size := by
          rw [h2, ← Nat.succ_mul]; exact Nat.mul_le_mul_right _ (by omega)
        have hfit : i * s + o + u.cells.toList.length ≤ arr.size := by simp; omega
        have run := run_storeVar (P := P) hT hy h1 (o := i * s + o) (by omega) (by omega) hone
        have hul : u.cells.toList.length = x.cells.length := by simp; omega
        obtain ⟨ev, hs'⟩ := set_arr hs hb hg h1 (seg_size hfit) h2 (l' := l') (g' := gen) (by rw [hll]; exact h3) h4 (Nat.le_refl _) (by rw [hll]; exact Nat.le_refl _) (fun _ => hll) (fun k z hk => by
          rw [hget] at hk
          by_cases hki : k = i
          · subst hki
            rw [if_pos rfl] at hk
            cases hk
            rw [hcells]
            refine ⟨by rw [setAt_length]; exact h6, fun j y' hj => ?_⟩
            have hjs : j < s := by have := lt_of_getElem? hj; rw [setAt_length] at this; omega
            rw [setAt_get _ _ _ _ (by omega)] at hj
            rw [seg_get hfit]
            by_cases hin : o ≤ j ∧ j < o + x.cells.length
            · rw [if_pos hin] at hj
              rw [if_pos (by omega)]
              obtain ⟨q, hq⟩ := arr_get (a := u.cells) (i := j - o) (by omega)
              refine ⟨q, by rw [show k * s + j - (k * s + o) = j - o by omega]; simpa using hq, ?_⟩
              exact cr (j - o) y' q hj hq
            · rw [if_neg hin] at hj
              rw [if_neg (by omega)]
              exact h7 j y' hj
          · rw [if_neg hki] at hk
            obtain ⟨q1, q2⟩ := h5 k z hk
            refine ⟨q1, fun j y' hj => ?_⟩
            have hjs : j < s := by have := lt_of_getElem? hj; omega
            rw [seg_get hfit, if_neg]
            · exact q2 j y' hj
            · intro hh
              have : u.cells.toList.length ≤ s - o := by omega
              rcases Nat.lt_or_ge k i with hlt | hge
              · have : k * s + s ≤ i * s := by rw [← Nat.succ_mul]; exact Nat.mul_le_mul_right _ hlt
                omega
              · have : i * s + s ≤ k * s := by rw [← Nat.succ_mul]; exact Nat.mul_le_mul_right _ (by omega)
                omega)
        exact ⟨_, _, by simpa [Instr.storeAt, Instr.sureAddr] using run, hs', ev, below_setRow' (hs.base b cb hg).1 _, h⟩
      have setget : ∀ {α : Type} {l : List α} {x0 x' : α}, l[i]? = some x0 → ∀ k, (l.set i x')[k]? = if k = i then some x' else l[k]? := by
        intro α l x0 x' hx0 k
        by_cases hk : k = i
        · subst hk; rw [if_pos rfl, List.getElem?_set_self (lt_of_getElem? hx0)]
        · rw [if_neg hk, List.getElem?_set_ne (Ne.symm hk)]
      cases l with
      | ts l =>
        simp only at h
        rw [ck_iff] at h
        obtain ⟨hgg, h⟩ := h
        rw [opt_iff] at h
        obtain ⟨x0, hx0, h⟩ := h
        split at h
        · rename_i cs hcs
          rw [ck_iff] at h
          obtain ⟨hc, h⟩ := h
          simp only [Bool.and_eq_true] at hc
          have c1 := Nat.eq_of_beq_eq_true hc.1.1
          have c2 := Nat.le_of_ble_eq_true hc.1.2
          have c3 := hc.2
          have hxc := toTs_spec hcs
          refine row (.t x0) (.t (setCells x0 o cs)) (.ts (l.set i (setCells x0 o cs))) hgg (by simp [Sq.get, hx0]) (by simp [Sq.length]) (fun k => ?_) ?_ (by rw [hxc]; simpa using c1) (by rw [T.cells_t]; simpa using c2) (by rw [hxc, List.all_map]; exact c3) h
          · simp only [Sq.get]
            rw [setget hx0 k]
            split <;> rfl
          · rw [T.cells_t, T.cells_t, setCells_cells (by omega) c3, hxc, setAt_map]
        · rw [ck_iff] at h
          obtain ⟨hc, h⟩ := h
          simp only [Bool.and_eq_true] at hc
          have c1 := Nat.eq_of_beq_eq_true hc.1.1
          have c2 := Nat.le_of_ble_eq_true hc.1.2
          have hx0' : (l.map AV.t)[i]? = some (.t x0) := by simp [hx0]
          refine row (.t x0) _ (.vs ((l.map .t).set i (setCellsA (.t x0) o x.cells))) hgg (by simp [Sq.get, hx0]) (by simp [Sq.length]) (fun k => ?_) (setCellsA_cells (by rw [T.cells_t]; simp; omega) hc.2) c1 (by rw [T.cells_t]; simpa using c2) hc.2 h
          · simp only [Sq.get]
            rw [setget hx0' k, List.getElem?_map]
      | vs l =>
        simp only at h
        rw [ck_iff] at h
        obtain ⟨hgg, h⟩ := h
        rw [opt_iff] at h
        obtain ⟨x0, hx0, h⟩ := h
        rw [ck_iff] at h
        obtain ⟨hc, h⟩ := h
        simp only [Bool.and_eq_true] at hc
        have c1 := Nat.eq_of_beq_eq_true hc.1.1
        have c2 := Nat.le_of_ble_eq_true hc.1.2
        exact row x0 _ (.vs (l.set i (setCellsA x0 o x.cells))) hgg hx0 (by simp [Sq.length]) (fun k => by simp only [Sq.get]; exact setget hx0 k) (setCellsA_cells (by omega) hc.2) c1 c2 hc.2 h
  · exact h.elim

end
end Go.Proofs.YthpkehhghcpolaaDoor
