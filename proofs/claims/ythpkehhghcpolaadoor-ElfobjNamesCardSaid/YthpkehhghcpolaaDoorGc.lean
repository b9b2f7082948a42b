/-
  A state with fewer blocks, numbered anew.
-/
import Derived.Test.YthpkehhghcpolaaDoorExt
namespace Go.Proofs.YthpkehhghcpolaaDoor
open Go.RowKit
set_option linter.unusedVariables false
set_option linter.unusedSimpArgs false

/-- The new number of a block that is kept. -/
def findI : List Nat → Nat → Nat → Option Nat
  | [], _, _ => none
  | k :: r, b, i => match Nat.beq k b with | true => some i | false => findI r b (i + 1)

theorem findI_spec : ∀ {keep : List Nat} {b i j : Nat}, findI keep b i = some j → i ≤ j ∧ keep[j - i]? = some b
  | [], b, i, j, h => by simp [findI] at h
  | k :: r, b, i, j, h => by
    simp only [findI] at h
    split at h
    · rename_i hb
      cases h
      rw [Nat.eq_of_beq_eq_true hb]
      exact ⟨Nat.le_refl _, by simp⟩
    · obtain ⟨h1, h2⟩ := findI_spec h
      refine ⟨by omega, ?_⟩
      rw [show j - i = (j - (i + 1)) + 1 by omega]
      simpa using h2

/-- The new generation of a row (those that were there when the function began keep theirs). -/
def newG (k0 b g : Nat) : Nat := match Nat.blt b k0 with | true => g | false => 0
theorem newG_odd (k0 b g : Nat) (h : newG k0 b g % 2 = 1) : g % 2 = 1 := by
  unfold newG at h
  split at h
  · exact h
  · simp at h

mutual
/-- A value with its blocks numbered anew. -/
def renF (k0 : Nat) : Nat → List Nat → AH → AV → Option AV
  | 0, _, _, _ => none
  | k + 1, keep, H, v =>
    match v with
    | .t x => some (.t x)
    | .ptr b g i o =>
      match findI keep b 0 with
      | some b' =>
        (match H[b]? with
        | some (.arr _ _ _ gen _) => (match Nat.beq g gen with | true => some (.ptr b' (newG k0 b' g) i o) | false => none)
        | some (.box _) => some (.ptr b' g i o)
        | some (.iter _ _) => some (.ptr b' g i o)
        | _ => none)
      | none => none
    | .sl b g i n =>
      match findI keep b 0 with
      | some b' =>
        (match H[b]? with
        | some (.arr _ _ _ gen _) => (match Nat.beq g gen with | true => some (.sl b' (newG k0 b' g) i n) | false => none)
        | _ => none)
      | none => none
    | .agg cs => match renL k0 k keep H cs with | some cs => some (.agg cs) | none => none
    | .tup cs => match renL k0 k keep H cs with | some cs => some (.tup cs) | none => none
    | .fn f a b => match renL k0 k keep H a, renL k0 k keep H b with | some a, some b => some (.fn f a b) | _, _ => none
    | .ifc t v => match renF k0 k keep H v with | some v => some (.ifc t v) | none => none
    | .emp => some .emp
    | .junk => some .junk
    | .own _ _ _ _ => none
def renL (k0 : Nat) : Nat → List Nat → AH → List AV → Option (List AV)
  | 0, _, _, _ => none
  | _ + 1, _, _, [] => some []
  | k + 1, keep, H, v :: r => match renF k0 k keep H v, renL k0 k keep H r with | some v, some r => some (v :: r) | _, _ => none
end

def renB (k0 : Nat) (keep : List Nat) (H : AH) (i : Nat) : Blk → Option Blk
  | .dead => some .dead
  | .box cells => (renL k0 64 keep H cells).map .box
  | .iter s p => some (.iter s p)
  | .arr e s z g (.ts l) => some (.arr e s z (newG k0 i g) (.ts l))
  | .arr e s z g (.vs l) => (renL k0 64 keep H l).map fun l => .arr e s z (newG k0 i g) (.vs l)

theorem renL_get {k0 : Nat} : ∀ (k : Nat) {keep : List Nat} {H : AH} {l l' : List AV}, renL k0 k keep H l = some l' → l'.length = l.length ∧ ∀ (i : Nat) x', l'[i]? = some x' → ∃ x m, l[i]? = some x ∧ m < k ∧ renF k0 m keep H x = some x'
  | 0, keep, H, l, l', h => by simp [renL] at h
  | k + 1, keep, H, [], l', h => by simp [renL] at h; subst h; simp
  | k + 1, keep, H, v :: r, l', h => by
    simp only [renL] at h
    split at h
    · rename_i v' r' hv hr
      cases h
      obtain ⟨h1, h2⟩ := renL_get k hr
      refine ⟨by simp [h1], fun i x hi => ?_⟩
      cases i with
      | zero => simp at hi; subst hi; exact ⟨v, k, rfl, Nat.lt_succ_self k, hv⟩
      | succ i =>
        simp at hi
        obtain ⟨x0, m, a1, a2, a3⟩ := h2 i x hi
        exact ⟨x0, m, a1, by omega, a3⟩
    · cases h

theorem renF_one {k0 k : Nat} {keep : List Nat} {H : AH} {v v' : AV} (h : renF k0 k keep H v = some v') (h1 : v.one = true) : v'.one = true := by
  cases k with
  | zero => simp [renF] at h
  | succ k =>
    cases v <;> simp only [renF] at h
    · cases h; exact h1
    · split at h
      · split at h
        · split at h <;> first | (cases h; rfl) | cases h
        · cases h; rfl
        · cases h; rfl
        · cases h
      · cases h
    · split at h
      · split at h
        · split at h <;> first | (cases h; rfl) | cases h
        · cases h
      · cases h
    · simp [AV.one] at h1
    · simp [AV.one] at h1
    · split at h <;> first | (cases h; rfl) | cases h
    · split at h <;> first | (cases h; rfl) | cases h
    · cases h
    · cases h; rfl
    · simp [AV.one] at h1

/-- How a state's blocks are numbered anew. -/
structure Kept (k0 : Nat) (c : Cx) (H : AH) (keep : List Nat) (c' : Cx) (H' : AH) : Prop where
  M : ∀ cb, c'.M H' cb → c.M H cb
  at_ : ∀ (i : Nat) b, keep[i]? = some b → c'.G i = c.G b ∧ ∃ blk blk', H[b]? = some blk ∧ H'[i]? = some blk' ∧ renB k0 keep H i blk = some blk'

theorem RA.ren {k0 : Nat} {w : World} {c : Cx} {H : AH} {keep : List Nat} {c' : Cx} {H' : AH} (hk : Kept k0 c H keep c' H') {x : AV} {v : Value} (h : RA w c H x v) : ∀ {k : Nat} {x' : AV}, renF k0 k keep H x = some x' → RA w c' H' x' v := by
  have list : ∀ {l l' : List AV} {vs : Nat → Option Value} {k : Nat}, (∀ (i : Nat) x v, l[i]? = some x → vs i = some v → ∀ {k : Nat} {x' : AV}, renF k0 k keep H x = some x' → RA w c' H' x' v) → renL k0 k keep H l = some l' →
      l'.length = l.length ∧ (∀ (i : Nat) x v, l'[i]? = some x → vs i = some v → RA w c' H' x v) := by
    intro l l' vs k ih h
    obtain ⟨h1, h2⟩ := renL_get k h
    refine ⟨h1, fun i x v hi hv => ?_⟩
    obtain ⟨x0, m, a1, a2, a3⟩ := h2 i x hi
    exact ih i x0 v a1 hv a3
  induction h with
  | t x v h =>
    intro k x' hx
    cases k with
    | zero => simp [renF] at hx
    | succ k => simp only [renF] at hx; cases hx; exact .t x v (h.mono fun b _ hb => ⟨rfl, fun hm => hb (hk.M b hm)⟩)
  | ptr b g i o v blk hb hm hv =>
    intro k x' hx
    cases k with
    | zero => simp [renF] at hx
    | succ k =>
      simp only [renF] at hx
      split at hx
      · rename_i b' hf
        obtain ⟨_, hf⟩ := findI_spec hf
        obtain ⟨hG, blk0, blk', h1, h2, h3⟩ := hk.at_ b' b (by simpa using hf)
        rw [hb] at h1; cases h1
        rw [hb] at hx
        cases blk with
        | dead => simp at hx
        | box cells =>
          simp only [renB, Option.map_eq_some_iff] at h3
          obtain ⟨cs, _, rfl⟩ := h3
          simp only at hx
          cases hx
          exact .ptr b' g i o v _ h2 (by rw [hG]; exact hm) hv
        | iter s p =>
          simp only [renB, Option.some.injEq] at h3
          subst h3
          simp only at hx
          cases hx
          exact .ptr b' g i o v _ h2 (by rw [hG]; exact hm) hv
        | arr e s z gen l =>
          simp only at hx
          split at hx
          · rename_i hgg
            cases hx
            have hgg := Nat.eq_of_beq_eq_true hgg
            subst hgg
            have : ∃ l', blk' = .arr e s z (newG k0 b' g) l' := by
              cases l with
              | ts l => simp [renB] at h3; exact ⟨_, h3.symm⟩
              | vs l =>
                simp only [renB, Option.map_eq_some_iff] at h3
                obtain ⟨l', _, rfl⟩ := h3
                exact ⟨_, rfl⟩
            obtain ⟨l', rfl⟩ := this
            exact .ptr b' _ i o v _ h2 ⟨Nat.le_refl _, fun _ => by rw [hG]; exact hm.2 rfl⟩ hv
          · cases hx
      · cases hx
  | sl b g i len v blk hb hm hv =>
    intro k x' hx
    cases k with
    | zero => simp [renF] at hx
    | succ k =>
      simp only [renF] at hx
      split at hx
      · rename_i b' hf
        obtain ⟨_, hf⟩ := findI_spec hf
        obtain ⟨hG, blk0, blk', h1, h2, h3⟩ := hk.at_ b' b (by simpa using hf)
        rw [hb] at h1; cases h1
        rw [hb] at hx
        cases blk with
        | dead => simp at hx
        | box cells => exact hm.elim
        | iter => exact hm.elim
        | arr e s z gen l =>
          simp only at hx
          split at hx
          · rename_i hgg
            cases hx
            have hgg := Nat.eq_of_beq_eq_true hgg
            subst hgg
            have : ∃ l', blk' = .arr e s z (newG k0 b' g) l' ∧ l'.length = l.length := by
              cases l with
              | ts l => simp [renB] at h3; exact ⟨_, h3.symm, rfl⟩
              | vs l =>
                simp only [renB, Option.map_eq_some_iff] at h3
                obtain ⟨l', hl, rfl⟩ := h3
                exact ⟨_, rfl, (renL_get _ hl).1⟩
            obtain ⟨l', rfl, hl⟩ := this
            refine .sl b' _ i len v _ h2 ⟨Nat.le_refl _, fun _ => ?_⟩ hv
            simp only [hl, hG]; exact hm.2 rfl
          · cases hx
      · cases hx
  | agg cs vs hl h1 hr ih =>
    intro k x' hx
    cases k with
    | zero => simp [renF] at hx
    | succ k =>
      simp only [renF] at hx
      split at hx
      · rename_i cs' hcs
        cases hx
        obtain ⟨a1, a2⟩ := list (vs := fun i => vs[i]?) (fun i x v hi hv => ih i x v hi hv) hcs
        refine .agg cs' vs (by omega) (fun i x hi => ?_) a2
        obtain ⟨x0, m, b1, _, b3⟩ := (renL_get _ hcs).2 i x hi
        exact renF_one b3 (h1 i x0 b1)
      · cases hx
  | tup cs vs hl hr ih =>
    intro k x' hx
    cases k with
    | zero => simp [renF] at hx
    | succ k =>
      simp only [renF] at hx
      split at hx
      · rename_i cs' hcs
        cases hx
        obtain ⟨a1, a2⟩ := list (vs := fun i => vs[i]?) (fun i x v hi hv => ih i x v hi hv) hcs
        exact .tup cs' vs (by omega) a2
      · cases hx
  | fn f first captured a b ha hb hra hrb iha ihb =>
    intro k x' hx
    cases k with
    | zero => simp [renF] at hx
    | succ k =>
      simp only [renF] at hx
      split at hx
      · rename_i a' b' h1 h2
        cases hx
        obtain ⟨a1, a2⟩ := list (vs := fun i => a[i]?) (fun i x v hi hv => iha i x v hi hv) h1
        obtain ⟨b1, b2⟩ := list (vs := fun i => b[i]?) (fun i x v hi hv => ihb i x v hi hv) h2
        exact .fn f a' b' a b (by omega) (by omega) a2 b2
      · cases hx
  | ifc t x v h ih =>
    intro k x' hx
    cases k with
    | zero => simp [renF] at hx
    | succ k =>
      simp only [renF] at hx
      split at hx
      · rename_i y hy
        cases hx
        exact .ifc t y v (ih hy)
      · cases hx
  | emp ad =>
    intro k x' hx
    cases k with
    | zero => simp [renF] at hx
    | succ k => simp only [renF] at hx; cases hx; exact .emp ad
  | junk v =>
    intro k x' hx
    cases k with
    | zero => simp [renF] at hx
    | succ k => simp only [renF] at hx; cases hx; exact .junk v

theorem renF_cells {k0 k : Nat} {keep : List Nat} {H : AH} {v v' : AV} (h : renF k0 k keep H v = some v') (hv : v.one = true ∨ ∃ cs, v = .agg cs ∨ ∃ l, v = .t (.agg l)) :
    v'.cells.length = v.cells.length ∧ ∀ (j : Nat) y', v'.cells[j]? = some y' → ∃ y m, v.cells[j]? = some y ∧ renF k0 m keep H y = some y' := by
  have single : v.one = true → v'.cells.length = v.cells.length ∧ ∀ (j : Nat) y', v'.cells[j]? = some y' → ∃ y m, v.cells[j]? = some y ∧ renF k0 m keep H y = some y' := by
    intro h1
    rw [AV.cells_one h1, AV.cells_one (renF_one h h1)]
    refine ⟨rfl, fun j y hj => ?_⟩
    cases j with
    | zero => simp at hj; subst hj; exact ⟨v, k, rfl, h⟩
    | succ j => simp at hj
  rcases hv with hv | ⟨cs, rfl | ⟨l, rfl⟩⟩
  · exact single hv
  · cases k with
    | zero => simp [renF] at h
    | succ k =>
      simp only [renF] at h
      split at h
      · rename_i cs' hcs
        cases h
        obtain ⟨h1, h2⟩ := renL_get _ hcs
        refine ⟨h1, fun j y hj => ?_⟩
        obtain ⟨x, m, a1, a2, a3⟩ := h2 j y hj
        exact ⟨x, m, a1, a3⟩
      · cases h
  · cases k with
    | zero => simp [renF] at h
    | succ k =>
      simp only [renF] at h
      cases h
      refine ⟨rfl, fun j y hj => ⟨y, 1, hj, ?_⟩⟩
      rw [T.cells_t] at hj
      simp only [List.getElem?_map, Option.map_eq_some_iff] at hj
      obtain ⟨c, _, rfl⟩ := hj
      rfl

/-- The kept values, as they are told anew. -/
def AgreeR (k0 : Nat) (keep : List Nat) (H : AH) (env : List (Nat × AV)) : List (Nat × AV) → Prop
  | [] => True
  | (t, v) :: r => renF k0 16 keep H (lk env t) = some v ∧ AgreeR k0 keep H env r

theorem agreeR_lk {k0 : Nat} {keep : List Nat} {H : AH} {env : List (Nat × AV)} : ∀ {env' : List (Nat × AV)}, AgreeR k0 keep H env env' → ∀ t, lk env' t = .junk ∨ renF k0 16 keep H (lk env t) = some (lk env' t)
  | [], _, t => .inl rfl
  | (d, v) :: r, h, t => by
    rw [lk_cons]
    by_cases e : d = t
    · rw [if_pos e, ← e, h.1]; exact .inr rfl
    · rw [if_neg e]; exact agreeR_lk h.2 t

def BlksR (k0 : Nat) (keep : List Nat) (H : AH) : Nat → List Nat → AH → Prop
  | _, [], [] => True
  | i, b :: r, blk :: l => (H[b]?.bind (renB k0 keep H i)) = some blk ∧ BlksR k0 keep H (i + 1) r l
  | _, _, _ => False

theorem blksR_get {k0 : Nat} {keep : List Nat} {H : AH} : ∀ {n : Nat} {r : List Nat} {l : AH}, BlksR k0 keep H n r l → r.length = l.length ∧ ∀ (i : Nat) b, r[i]? = some b → ∃ blk blk', H[b]? = some blk ∧ l[i]? = some blk' ∧ renB k0 keep H (n + i) blk = some blk'
  | n, [], [], _ => by simp
  | n, [], _ :: _, h => h.elim
  | n, _ :: _, [], h => h.elim
  | n, b :: r, blk :: l, h => by
    obtain ⟨h1, h2⟩ := blksR_get h.2
    refine ⟨by simp [h1], fun i b' hi => ?_⟩
    cases i with
    | zero =>
      simp at hi; subst hi
      have := h.1
      rw [Option.bind_eq_some_iff] at this
      obtain ⟨bk, a1, a2⟩ := this
      exact ⟨bk, blk, a1, rfl, a2⟩
    | succ i =>
      simp at hi
      obtain ⟨bk, bk', a1, a2, a3⟩ := h2 i b' hi
      exact ⟨bk, bk', a1, a2, by rw [show n + (i + 1) = n + 1 + i by omega]; exact a3⟩

/-- Are the first so many kept as they are? -/
def headOK (k0 : Nat) (keep : List Nat) : Bool := decide (keep.Nodup) && Nat.ble k0 keep.length && (List.range k0).all fun i => match keep[i]? with | some b => Nat.beq b i | none => false

theorem goes_ren {k0 : Nat} {keep : List Nat} {H : AH} {w0 w : World} {c0 c c' : Cx} {b : Nat} {blk0 blk blk' : Blk} (hb : b < k0) (h : Blk.goes w0 c0 w c b blk0 blk) (hr : renB k0 keep H b blk = some blk') (hG : c'.G b = c.G b) : Blk.goes w0 c0 w c' b blk0 blk' := by
  cases blk with
  | dead => simp [renB] at hr; subst hr; cases blk0 <;> trivial
  | box cells =>
    simp only [renB, Option.map_eq_some_iff] at hr
    obtain ⟨cs, hcs, rfl⟩ := hr
    have hl := (renL_get _ hcs).1
    cases blk0 with
    | dead => exact h.elim
    | arr => exact h.elim
    | iter => exact h.elim
    | box cs0 => exact ⟨h.1.trans hl.symm, fun cb hc => by rw [hG]; exact h.2 cb hc⟩
  | iter s p =>
    simp only [renB, Option.some.injEq] at hr
    subst hr
    cases blk0 with
    | dead => exact h.elim
    | arr => exact h.elim
    | box => exact h.elim
    | iter s0 p0 => exact ⟨h.1, fun cb hc => by rw [hG]; exact h.2 cb hc⟩
  | arr e s z g l =>
    have hng : newG k0 b g = g := by rw [newG, show Nat.blt b k0 = true from by rw [Nat.blt_eq]; exact hb]
    have : ∃ l', blk' = .arr e s z g l' ∧ l'.length = l.length := by
      rw [← hng]
      cases l with
      | ts l => simp [renB] at hr; exact ⟨_, hr.symm, rfl⟩
      | vs l =>
        simp only [renB, Option.map_eq_some_iff] at hr
        obtain ⟨l', hl, rfl⟩ := hr
        exact ⟨_, rfl, (renL_get _ hl).1⟩
    obtain ⟨l', rfl, hl⟩ := this
    cases blk0 with
    | dead => exact h.elim
    | box => exact h.elim
    | iter => exact h.elim
    | arr e0 s0 z0 g0 l0 =>
      obtain ⟨a1, a2, a3, a4, a5, a6⟩ := h
      exact ⟨a1, a2, a3, by omega, a5, fun he => ⟨by rw [hl]; exact (a6 he).1, fun cb hc => by rw [hG]; exact (a6 he).2 cb hc⟩⟩

theorem weak_gc {k0 : Nat} {s s' : St} (keep : List Nat) (hd : headOK k0 keep = true) (h : AgreeR k0 keep s.H s.env s'.env) (hB : BlksR k0 keep s.H 0 keep s'.H) : Weak k0 s s' := by
  intro O c a w hk0 hs
  subst hk0
  simp only [headOK, Bool.and_eq_true, decide_eq_true_eq, List.all_eq_true, List.mem_range] at hd
  obtain ⟨⟨hnd, hlen⟩, hfix⟩ := hd
  have hlen := Nat.le_of_ble_eq_true hlen
  have hfix : ∀ i, i < O.H0.length → keep[i]? = some i := fun i hi => by
    have := hfix i hi
    cases hk : keep[i]? with
    | none => rw [hk] at this; cases this
    | some b => rw [hk] at this; rw [Nat.eq_of_beq_eq_true this]
  obtain ⟨hBl, hBg⟩ := blksR_get hB
  let c' : Cx := ⟨c.F, fun i => keep[i]?.bind c.G⟩
  have hG : ∀ i cb, c'.G i = some cb → ∃ b, keep[i]? = some b ∧ c.G b = some cb := fun i cb hg => by
    simp only [c', Option.bind_eq_some_iff] at hg; exact hg
  have hblk : ∀ i blk', s'.H[i]? = some blk' → ∃ b blk, keep[i]? = some b ∧ s.H[b]? = some blk ∧ renB O.H0.length keep s.H i blk = some blk' := fun i blk' hi => by
    have hlt := lt_of_getElem? hi
    obtain ⟨blk, bk', h1, h2, h3⟩ := hBg i _ (List.getElem?_eq_getElem (by omega))
    rw [hi] at h2; cases h2
    exact ⟨_, blk, List.getElem?_eq_getElem (by omega), h1, by rw [Nat.zero_add] at h3; exact h3⟩
  have live : ∀ {i : Nat} {blk blk' : Blk}, renB O.H0.length keep s.H i blk = some blk' → blk'.live = true → blk.live = true := by
    intro i blk blk' h1 h2
    cases blk with
    | dead => simp [renB] at h1; subst h1; exact h2
    | box => rfl
    | iter => rfl
    | arr => rfl
  have hM : ∀ cb, c'.M s'.H cb → c.M s.H cb := by
    rintro cb (hf | ⟨i, blk', hi, hl, hg⟩)
    · exact .inl hf
    · obtain ⟨b, hb, hg⟩ := hG i cb hg
      obtain ⟨b2, blk, hb2, h1, h2⟩ := hblk i blk' hi
      rw [hb] at hb2; cases hb2
      exact .inr ⟨b, blk, h1, live h2 hl, hg⟩
  have hk : Kept O.H0.length c s.H keep c' s'.H := ⟨hM, fun i b hi => ⟨by simp [c', hi], by
    obtain ⟨blk, blk', h1, h2, h3⟩ := hBg i b hi
    exact ⟨blk, blk', h1, h2, by rw [Nat.zero_add] at h3; exact h3⟩⟩⟩
  have hs' : HS w c' s'.H O.B := by
    refine ⟨fun i j cb h1 h2 => ?_, fun i cb h1 => ?_, hs.hs.fb, hs.hs.hB, fun i cb h1 => ?_, fun i cb cells hi hg => ?_, fun i cb e s1 z g l hi hg => ?_, fun i cb s1 p hi hg => ?_⟩
    · obtain ⟨b, a1, a2⟩ := hG i cb h1
      obtain ⟨b', b1, b2⟩ := hG j cb h2
      have := hs.hs.inj b b' cb a2 b2
      subst this
      exact (List.getElem?_inj (lt_of_getElem? a1) hnd).1 (a1.trans b1.symm)
    · obtain ⟨b, a1, a2⟩ := hG i cb h1
      exact hs.hs.base b cb a2
    · obtain ⟨b, a1, a2⟩ := hG i cb h1
      have := lt_of_getElem? a1
      omega
    · obtain ⟨b, a1, a2⟩ := hG i cb hg
      obtain ⟨b2, blk, b1, b2', b3⟩ := hblk i _ hi
      rw [a1] at b1; cases b1
      cases blk with
      | dead => simp [renB] at b3
      | iter => simp [renB] at b3
      | arr e s2 z g l => cases l <;> simp [renB] at b3
      | box cells0 =>
        simp only [renB, Option.map_eq_some_iff, Blk.box.injEq] at b3
        obtain ⟨cs, hcs, rfl⟩ := b3
        obtain ⟨hl, hget⟩ := renL_get _ hcs
        obtain ⟨arr, e, h1, h2, h3⟩ := hs.hs.box b cb cells0 b2' a2
        refine ⟨arr, e, h1, by omega, fun j x v hj hv => ?_⟩
        obtain ⟨x0, m, d1, d2, d3⟩ := hget j x hj
        obtain ⟨e1, e2, e3⟩ := h3 j x0 v d1 hv
        exact ⟨renF_one d3 e1, e2.ren hk d3, e3⟩
    · obtain ⟨b, a1, a2⟩ := hG i cb hg
      obtain ⟨b2, blk, b1, b2', b3⟩ := hblk i _ hi
      rw [a1] at b1; cases b1
      cases blk with
      | dead => simp [renB] at b3
      | box cells0 => simp [renB] at b3
      | iter => simp [renB] at b3
      | arr e0 s0 z0 g0 l0 =>
        obtain ⟨arr, cap, h1, h2, h3, h4, h5⟩ := hs.hs.arr b cb e0 s0 z0 g0 l0 b2' a2
        cases l0 with
        | ts l0 =>
          simp [renB] at b3
          obtain ⟨rfl, rfl, rfl, hgg, rfl⟩ := b3
          refine ⟨arr, cap, h1, h2, ⟨h3.1, fun h => h3.2 (newG_odd _ _ _ (by rw [hgg]; exact h))⟩, h4, Rowed.ts.2 fun k x hk' => ⟨(Rowed.ts.1 h5 k x hk').1, fun j y hj => ?_⟩⟩
          obtain ⟨v, k1, k2, k3, k4⟩ := (Rowed.ts.1 h5 k x hk').2 j y hj
          exact ⟨v, k1, k2, k3.mono fun b _ hb => ⟨rfl, fun hm => hb (hM b hm)⟩, k4⟩
        | vs l0 =>
          simp only [renB, Option.map_eq_some_iff] at b3
          obtain ⟨l', hl', b3⟩ := b3
          cases b3
          obtain ⟨hl, hget⟩ := renL_get _ hl'
          refine ⟨arr, cap, h1, h2, by simp only [Sq.length] at h3 ⊢; exact ⟨by omega, fun h => hl.trans (h3.2 (newG_odd _ _ _ h))⟩, h4, fun k x hk' => ?_⟩
          obtain ⟨x0, m, d1, d2, d3⟩ := hget k x hk'
          obtain ⟨q1, q2⟩ := h5 k x0 d1
          have hx0 : x0.one = true ∨ ∃ cs, x0 = .agg cs ∨ ∃ l, x0 = .t (.agg l) := by
            cases m with
            | zero => simp [renF] at d3
            | succ m =>
              cases x0 with
              | agg cs => exact .inr ⟨cs, .inl rfl⟩
              | t x => cases x <;> first | exact .inl rfl | exact .inr ⟨[], .inr ⟨_, rfl⟩⟩
              | tup cs => have := q2 0 (.tup cs) (by simp [AV.cells]); obtain ⟨_, _, h, _⟩ := this; simp [AV.one] at h
              | own => simp [renF] at d3
              | junk => have := q2 0 .junk (by simp [AV.cells]); obtain ⟨_, _, h, _⟩ := this; simp [AV.one] at h
              | _ => exact .inl rfl
          obtain ⟨r1, r2⟩ := renF_cells d3 hx0
          refine ⟨by omega, fun j y hj => ?_⟩
          obtain ⟨y0, m', s1, s2⟩ := r2 j y hj
          obtain ⟨v, t1, t2, t3, t4⟩ := q2 j y0 s1
          exact ⟨v, t1, renF_one s2 t2, t3.ren hk s2, t4⟩
    · obtain ⟨b, a1, a2⟩ := hG i cb hg
      obtain ⟨b2, blk, b1, b2', b3⟩ := hblk i _ hi
      rw [a1] at b1; cases b1
      cases blk with
      | dead => simp [renB] at b3
      | box cells0 => simp [renB] at b3
      | arr e s2 z g l => cases l <;> simp [renB] at b3
      | iter s0 p0 =>
        simp only [renB, Option.some.injEq, Blk.iter.injEq] at b3
        obtain ⟨rfl, rfl⟩ := b3
        exact hs.hs.iter b cb s0 p0 b2' a2
  refine ⟨c', fun t => ?_, hs', hs.size, hs.defers, ?_, hs.below⟩
  · rcases agreeR_lk h t with e | e
    · rw [e]; exact .junk _
    · exact (hs.env t).ren hk e
  · refine ⟨hs.ev.F, hs.ev.size, fun b blk0 hb => ?_, fun cb hm => hs.ev.muts cb (hM cb hm), hs.ev.mem, fun b blk0 hb hf hg => ?_⟩
    · have hlt := lt_of_getElem? hb
      obtain ⟨blk, h1, h2⟩ := hs.ev.blk b blk0 hb
      obtain ⟨bk, blk', k1, k2, k3⟩ := hBg b b (hfix b hlt)
      rw [h1] at k1; cases k1
      exact ⟨blk', k2, goes_ren hlt h2 (by rw [Nat.zero_add] at k3; exact k3) (by simp [c', hfix b hlt])⟩
    · have hlt := lt_of_getElem? hb
      simp only [c', hfix b hlt, Option.bind_some]
      exact hs.ev.late b blk0 hb hf hg

end Go.Proofs.YthpkehhghcpolaaDoor
