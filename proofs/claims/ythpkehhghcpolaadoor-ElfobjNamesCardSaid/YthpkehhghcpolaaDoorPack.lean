/-
  From a walk of a function's body to its contract.
-/
import Derived.Test.YthpkehhghcpolaaDoorCode
namespace Go.Proofs.YthpkehhghcpolaaDoor
open Go.RowKit
set_option linter.unusedVariables false
set_option linter.unusedSimpArgs false

/-! ### What a walk holds, as data -/

mutual
/-- A value as data, with the blocks that it is read from. -/
def snapF : Nat → AH → AV → Option (T × List Nat)
  | 0, _, _ => none
  | k + 1, H, v =>
    match v with
    | .t x => some (x, [])
    | .sl b g i m =>
      match H[b]? with
      | some (.arr _ s z gen l) =>
        match Nat.beq g gen with
        | true => match z && Nat.beq l.length 0 with
          | true => some (.nils, [])
          | false => match l.part i m with
            | .ts q => some (.vec s q, [b])
            | .vs q => match snapL k H q with | some (q, ids) => some (.vec s q, b :: ids) | none => none
        | false => none
      | _ => none
    | .emp => some (.vec 0 [], [])
    | .ptr b _ _ o =>
      match H[b]? with
      | some (.box cells) => match snapL k H (cells.drop o) with | some (l, ids) => some (.iptr l, b :: ids) | none => none
      | _ => none
    | .agg cs => match cs.all AV.one, snapL k H cs with | true, some (l, ids) => some (.agg l, ids) | _, _ => none
    | .fn f a b => match snapL k H a, snapL k H b with | some (x, i), some (y, j) => some (.fn f x y, i ++ j) | _, _ => none
    | .ifc t v => match snapF k H v with | some (x, i) => some (.ifc t x, i) | none => none
    | _ => none
def snapL : Nat → AH → List AV → Option (List T × List Nat)
  | 0, _, _ => none
  | _ + 1, _, [] => some ([], [])
  | k + 1, H, v :: r => match snapF k H v, snapL k H r with | some (x, i), some (l, j) => some (x :: l, i ++ j) | _, _ => none
end

theorem snapF_one : ∀ (k : Nat) {H : AH} {v : AV} {x : T} {ids : List Nat}, snapF k H v = some (x, ids) → v.one = true → x.one = true
  | 0, H, v, x, ids, h, _ => by simp [snapF] at h
  | k + 1, H, v, x, ids, h, h1 => by
    simp only [snapF] at h
    split at h
    · cases h; exact h1
    · split at h
      · split at h
        · split at h
          · cases h; rfl
          · split at h
            · cases h; rfl
            · split at h
              · cases h; rfl
              · cases h
        · cases h
      · cases h
    · cases h; rfl
    · split at h
      · split at h
        · cases h; rfl
        · cases h
      · cases h
    · simp [AV.one] at h1
    · split at h
      · cases h; rfl
      · cases h
    · split at h
      · cases h; rfl
      · cases h
    · cases h

/-- A list as data: element by element. -/
theorem snapL_get : ∀ (k : Nat) {H : AH} {cs : List AV} {l : List T} {ids : List Nat}, snapL k H cs = some (l, ids) → l.length = cs.length ∧
    ∀ (i : Nat) y, l[i]? = some y → ∃ x m js, cs[i]? = some x ∧ m < k ∧ snapF m H x = some (y, js) ∧ ∀ b ∈ js, b ∈ ids
  | 0, H, cs, l, ids, h => by simp [snapL] at h
  | k + 1, H, [], l, ids, h => by
    simp [snapL] at h
    obtain ⟨rfl, rfl⟩ := h
    simp
  | k + 1, H, a :: r, l, ids, h => by
    simp only [snapL] at h
    split at h
    · rename_i x i1 l1 j1 hx hl1
      cases h
      obtain ⟨h1, h2⟩ := snapL_get k hl1
      refine ⟨by simp [h1], fun i y hi => ?_⟩
      cases i with
      | zero => simp at hi; subst hi; exact ⟨a, k, i1, rfl, Nat.lt_succ_self k, hx, fun b hb => by simp [hb]⟩
      | succ i =>
        simp at hi
        obtain ⟨x', m, js, a1, a2, a3, a4⟩ := h2 i y hi
        exact ⟨x', m, js, a1, by omega, a3, fun b hb => by simp [a4 b hb]⟩
    · cases h

theorem snapL_one (k : Nat) {H : AH} {cs : List AV} {l : List T} {ids : List Nat} (h : snapL k H cs = some (l, ids)) (i : Nat) (x : AV) (y : T) (hx : cs[i]? = some x) (hy : l[i]? = some y) (h1 : x.one = true) : y.one = true := by
  obtain ⟨x', m, js, a1, a2, a3, a4⟩ := (snapL_get k h).2 i y hy
  rw [hx] at a1; cases a1
  exact snapF_one m a3 h1

theorem snapF_ok {w : World} {c : Cx} {H : AH} {B : Nat} (hs : HS w c H B) {M' : Nat → Prop} (hM1 : ∀ cb, M' cb → c.M H cb) (k : Nat) : ∀ {v : AV} {u : Value} {x : T} {ids : List Nat},
    snapF k H v = some (x, ids) → RA w c H v u → (∀ b ∈ ids, ∀ cb, c.G b = some cb → ¬ M' cb) → RT w M' x u := by
  induction k using Nat.strongRecOn with
  | _ k ih =>
  intro v u x ids h hr hM2
  cases k with
  | zero => simp [snapF] at h
  | succ k =>
    have mono : ∀ {x : T} {u : Value}, RT w (c.M H) x u → RT w M' x u := fun h => h.mono fun b _ hb => ⟨rfl, fun hm => hb (hM1 b hm)⟩
    -- a list of values
    have list : ∀ {m : Nat} {cs : List AV} {l : List T} {js : List Nat}, m ≤ k → snapL m H cs = some (l, js) → (∀ b ∈ js, ∀ cb, c.G b = some cb → ¬ M' cb) →
        l.length = cs.length ∧ ∀ (i : Nat) y, l[i]? = some y → ∃ x, cs[i]? = some x ∧ (x.one = true → y.one = true) ∧ ∀ v, RA w c H x v → RT w M' y v := by
      intro m cs l js hm hl hj
      obtain ⟨h1, h2⟩ := snapL_get m hl
      refine ⟨h1, fun i y hi => ?_⟩
      obtain ⟨x, m', js', a1, a2, a3, a4⟩ := h2 i y hi
      exact ⟨x, a1, snapF_one m' a3, fun v hv => ih m' (by omega) a3 hv fun b hb => hj b (a4 b hb)⟩
    -- a value's cells
    have cells : ∀ {m : Nat} {x : AV} {y : T} {js : List Nat}, m ≤ k → snapF m H x = some (y, js) → (∀ b ∈ js, ∀ cb, c.G b = some cb → ¬ M' cb) →
        y.cells.length = x.cells.length ∧ ∀ (j : Nat) z, y.cells[j]? = some z → ∃ x', x.cells[j]? = some x' ∧ (x'.one = true → z.one = true) ∧ ∀ v, RA w c H x' v → RT w M' z v := by
      intro m x y js hm hx hj
      have single : x.one = true → x.cells = [x] → y.cells.length = x.cells.length ∧ ∀ (j : Nat) z, y.cells[j]? = some z → ∃ x', x.cells[j]? = some x' ∧ (x'.one = true → z.one = true) ∧ ∀ v, RA w c H x' v → RT w M' z v := by
        intro h1 hc
        have hy1 := snapF_one m hx h1
        rw [hc, T.cells_one hy1]
        refine ⟨rfl, fun j z hz => ?_⟩
        cases j with
        | zero => simp at hz; subst hz; exact ⟨x, rfl, fun _ => hy1, fun v hv => ih m (by omega) hx hv hj⟩
        | succ j => simp at hz
      cases m with
      | zero => simp [snapF] at hx
      | succ m =>
        cases x with
        | t x =>
          simp only [snapF] at hx
          cases hx
          rw [T.cells_t]
          refine ⟨by simp, fun j z hz => ⟨.t z, by simp [hz], fun h => h, fun v hv => ?_⟩⟩
          exact mono hv.rt
        | agg cs =>
          simp only [snapF] at hx
          split at hx
          · rename_i hall hl
            cases hx
            obtain ⟨h1, h2⟩ := list (by omega) hl hj
            exact ⟨h1, h2⟩
          · cases hx
        | ptr b g i o => exact single rfl rfl
        | sl b g i n => exact single rfl rfl
        | fn f a b => exact single rfl rfl
        | ifc t v => exact single rfl rfl
        | emp => exact single rfl rfl
        | tup => simp [snapF] at hx
        | own => simp [snapF] at hx
        | junk => simp [snapF] at hx
    simp only [snapF] at h
    split at h
    · cases h; exact mono hr.rt
    · rename_i b g i m
      cases hr with | sl _ _ _ _ _ blk hb hm hv =>
      rw [hb] at h
      cases blk with
      | dead => cases h
      | box => cases h
      | iter => cases h
      | arr e s z gen l =>
        simp only at h
        split at h
        · rename_i hg
          obtain ⟨hlen, hm⟩ := hm.2 (Nat.eq_of_beq_eq_true hg)
          split at h
          · rename_i hz
            cases h
            simp at hz
            rcases hm with ⟨_, _, rfl⟩ | ⟨z1, _⟩ | ⟨hne, _⟩
            · exact .nils
            · rw [hz.1] at z1; cases z1
            · exact (hne hz).elim
          · rename_i hz
            have hnil : ¬ (z = true ∧ l.length = 0) := fun ⟨a, b⟩ => by rw [a, b] at hz; cases hz
            -- the elements as data
            have elem : ∃ q, x = .vec s q ∧ b ∈ ids ∧ q.length = (l.part i m).length ∧ ∀ (k : Nat) y, q[k]? = some y → ∃ x0, (l.part i m).get k = some x0 ∧ y.cells.length = x0.cells.length ∧
                ∀ (j : Nat) z, y.cells[j]? = some z → ∃ x', x0.cells[j]? = some x' ∧ (x'.one = true → z.one = true) ∧ ∀ v, RA w c H x' v → RT w M' z v := by
              split at h
              · rename_i q hq
                cases h
                rw [hq]
                refine ⟨q, rfl, by simp, rfl, fun k y hk => ⟨.t y, by simp [Sq.get, hk], by rw [T.cells_t]; simp, fun j z hz => ?_⟩⟩
                rw [T.cells_t]
                exact ⟨.t z, by simp [hz], fun h => h, fun v hv => mono hv.rt⟩
              · rename_i q hq
                split at h
                · rename_i q' js hl
                  cases h
                  rw [hq]
                  obtain ⟨h1, h2⟩ := snapL_get k hl
                  refine ⟨q', rfl, by simp, h1, fun k' y hk => ?_⟩
                  obtain ⟨x0, m', js', a1, a2, a3, a4⟩ := h2 k' y hk
                  obtain ⟨c1, c2⟩ := cells (by omega) a3 fun b' hb' => hM2 b' (by simp [a4 b' hb'])
                  exact ⟨x0, a1, c1, c2⟩
                · cases h
            obtain ⟨q, rfl, hbi, hql, hqe⟩ := elem
            rw [Sq.part_length] at hql
            rcases hm with ⟨h1, h2, _⟩ | ⟨z1, l1, ad, rfl⟩ | ⟨hne, cb, cap, off, hg, rfl, hsz, hcap, hmx, hoff, hoff0⟩
            · exact (hnil ⟨h1, h2⟩).elim
            · have hq0 : q = [] := List.eq_nil_of_length_eq_zero (by omega)
              subst hq0
              obtain ⟨cb, off, sp⟩ := ad
              exact .vec s [] cb off 0 sp (fun _ _ => undef) (by simp) (by simp) (by simp) (by simp) (by simp) (by simp)
            · obtain ⟨arr, cap', h1, h2, h3, h4, h5⟩ := hs.arr b cb e s z gen l hb hg
              have hn : q.length = m := by rw [hql, Nat.min_eq_left (Nat.le_sub_of_add_le (by rw [Nat.add_comm]; exact hlen))]
              have hM : ¬ M' cb := hM2 b hbi cb hg
              have cellOf : ∀ (k : Nat) e' (j : Nat) y, q[k]? = some e' → e'.cells[j]? = some y → ∃ u, arr[(i + k) * s + j]? = some u ∧ y.one = true ∧ RT w M' y u := by
                intro k e' j y hk hj
                obtain ⟨x0, a1, a2, a3⟩ := hqe k e' hk
                obtain ⟨x', b1, b2, b3⟩ := a3 j y hj
                rw [Sq.part_get] at a1
                split at a1
                · obtain ⟨u, hu, c1, c2, c3⟩ := (h5 _ _ a1).2 j x' b1
                  exact ⟨u, hu, b2 c1, b3 u c2⟩
                · cases a1
              have := RT.vec (w := w) (M := M') s q cb off cap none (fun k j => arr.getD ((i + k) * s + j) undef) (fun _ _ => hM) (by omega) (fun _ => rfl)
                (fun k e' hk => by
                  obtain ⟨x0, a1, a2, a3⟩ := hqe k e' hk
                  rw [Sq.part_get] at a1
                  split at a1
                  · rw [a2]; exact (h5 _ _ a1).1
                  · cases a1)
                (fun k e' j y hk hj => by
                  obtain ⟨u, hu, h6, h7⟩ := cellOf k e' j y hk hj
                  have hlt := lt_of_getElem? hk
                  have hoff' : off = i * s := hoff.resolve_left (by omega)
                  rw [cell_row h1, show off + k * s + j = (i + k) * s + j by rw [hoff', Nat.add_mul], hu]
                  exact ⟨by simp [Array.getD_eq_getD_getElem?, hu], h6⟩)
                (fun k e' j y hk hj => by
                  obtain ⟨u, hu, h6, h7⟩ := cellOf k e' j y hk hj
                  simp only [Array.getD_eq_getD_getElem?, hu, Option.getD_some]
                  exact h7)
              rw [hn] at this
              exact this
        · cases h
    · cases h
      cases hr
      exact .vec 0 [] _ _ 0 _ (fun _ _ => undef) (by simp) (by simp) (by simp) (by simp) (by simp) (by simp)
    · rename_i b g i o
      cases hr with | ptr _ _ _ _ _ blk hb hm hv =>
      rw [hb] at h
      cases blk with
      | dead => cases h
      | arr => cases h
      | iter => cases h
      | box cells =>
        simp only at h
        obtain ⟨cb, hg, rfl⟩ := hm
        split at h
        · rename_i l j hl
          cases h
          obtain ⟨arr, e, h1, h2, h3⟩ := hs.box b cb cells hb hg
          obtain ⟨k1, k2⟩ := list (Nat.le_refl k) hl fun b' hb' => hM2 b' (by simp [hb'])
          have hcell : ∀ (i : Nat) y, l[i]? = some y → ∃ v, arr[o + i]? = some v ∧ y.one = true ∧ RT w M' y v := by
            intro i y hi
            obtain ⟨x', b1, b2, b3⟩ := k2 i y hi
            rw [List.getElem?_drop] at b1
            obtain ⟨v, hv⟩ := arr_get (a := arr) (i := o + i) (by have := lt_of_getElem? b1; omega)
            obtain ⟨c1, c2, _⟩ := h3 _ x' v b1 hv
            exact ⟨v, hv, b2 c1, b3 v c2⟩
          refine .iptr l cb o (fun i => arr.getD (o + i) undef) (fun _ => hM2 b (by simp) cb hg) (fun i y hi => ?_) (fun i y hi => ?_)
          · obtain ⟨q, hq, hone, _⟩ := hcell i y hi
            exact ⟨by rw [cell_row h1, hq]; simp [Array.getD_eq_getD_getElem?, hq], hone⟩
          · obtain ⟨q, hq, hone, hrt⟩ := hcell i y hi
            simp only [Array.getD_eq_getD_getElem?, hq, Option.getD_some]
            exact hrt
        · cases h
    · rename_i cs
      split at h
      · rename_i hall hl
        rename_i l j
        cases h
        cases hr with | agg _ vs hlen h1 hrr =>
        obtain ⟨k1, k2⟩ := list (Nat.le_refl k) hl hM2
        refine .agg l vs (by omega) (fun i y hi => ?_) (fun i y v hi hv => ?_)
        · obtain ⟨x', b1, b2, _⟩ := k2 i y hi
          exact b2 (h1 i x' b1)
        · obtain ⟨x', b1, _, b3⟩ := k2 i y hi
          exact b3 v (hrr i x' v b1 hv)
      · cases h
    · rename_i f a b
      split at h
      · rename_i x1 i1 y1 j1 ha hb
        cases h
        cases hr with | fn _ _ _ p q hla hlb hra hrb =>
        obtain ⟨k1, k2⟩ := list (Nat.le_refl k) ha fun b' hb' => hM2 b' (by simp [hb'])
        obtain ⟨k3, k4⟩ := list (Nat.le_refl k) hb fun b' hb' => hM2 b' (by simp [hb'])
        refine .fn f x1 y1 p q (by omega) (by omega) (fun i y v hi hv => ?_) (fun i y v hi hv => ?_)
        · obtain ⟨x', b1, _, b3⟩ := k2 i y hi
          exact b3 v (hra i x' v b1 hv)
        · obtain ⟨x', b1, _, b3⟩ := k4 i y hi
          exact b3 v (hrb i x' v b1 hv)
      · cases h
    · split at h
      · rename_i x1 i1 hx
        cases h
        cases hr with | ifc _ _ v hr =>
        exact .ifc _ _ _ (ih k (Nat.lt_succ_self k) hx hr hM2)
      · cases h
    · cases h

theorem snapL_ok {w : World} {c : Cx} {H : AH} {B : Nat} (hs : HS w c H B) {M' : Nat → Prop} (hM1 : ∀ cb, M' cb → c.M H cb) (k : Nat) {cs : List AV} {vs : List Value} {l : List T} {ids : List Nat}
    (h : snapL k H cs = some (l, ids)) (hl : cs.length = vs.length) (hr : ∀ (i : Nat) x v, cs[i]? = some x → vs[i]? = some v → RA w c H x v) (hM2 : ∀ b ∈ ids, ∀ cb, c.G b = some cb → ¬ M' cb) :
    l.length = cs.length ∧ ∀ (i : Nat) x v, l[i]? = some x → vs[i]? = some v → RT w M' x v := by
  obtain ⟨h1, h2⟩ := snapL_get k h
  refine ⟨h1, fun i y v hi hv => ?_⟩
  obtain ⟨x, m, js, a1, a2, a3, a4⟩ := h2 i y hi
  exact snapF_ok hs hM1 m a3 (hr i x v a1 hv) fun b hb => hM2 b (a4 b hb)

/-! ### What is handed back -/

/-- 'r' tells what 'v' is, read in the walk's memory. -/
def packP1 (H : AH) : AV → AV → Prop
  | .own e s z l, .sl b g i m => H[b]? = some (.arr e s z g (.ts l)) ∧ i = 0 ∧ m = l.length
  | .t x, v => (snapF 5000 H v).map Prod.fst = some x
  | _, _ => False

def own1 : AV → AV → List Nat
  | .own _ _ _ _, .sl b _ _ _ => [b]
  | _, _ => []

def fro1 (H : AH) : AV → AV → List Nat
  | .t _, v => match snapF 5000 H v with | some (_, ids) => ids | none => []
  | _, _ => []

def packPL (H : AH) : List AV → List AV → Prop
  | [], [] => True
  | r :: rs, v :: vs => packP1 H r v ∧ packPL H rs vs
  | _, _ => False

def ownL : List AV → List AV → List Nat
  | r :: rs, v :: vs => own1 r v ++ ownL rs vs
  | _, _ => []

def froL (H : AH) : List AV → List AV → List Nat
  | r :: rs, v :: vs => fro1 H r v ++ froL H rs vs
  | _, _ => []

def packP2 (H : AH) : AV → AV → Prop
  | .agg rs, .agg vs => packPL H rs vs ∧ rs.all AV.one = true
  | r, v => packP1 H r v

def own2 : AV → AV → List Nat
  | .agg rs, .agg vs => ownL rs vs
  | r, v => own1 r v

def fro2 (H : AH) : AV → AV → List Nat
  | .agg rs, .agg vs => froL H rs vs
  | r, v => fro1 H r v

def packPL2 (H : AH) : List AV → List AV → Prop
  | [], [] => True
  | r :: rs, v :: vs => packP2 H r v ∧ packPL2 H rs vs
  | _, _ => False

def ownL2 : List AV → List AV → List Nat
  | r :: rs, v :: vs => own2 r v ++ ownL2 rs vs
  | _, _ => []

def froL2 (H : AH) : List AV → List AV → List Nat
  | r :: rs, v :: vs => fro2 H r v ++ froL2 H rs vs
  | _, _ => []

def packP (H : AH) : AV → AV → Prop
  | .tup rs, .tup vs => packPL2 H rs vs
  | r, v => packP2 H r v

def owns : AV → AV → List Nat
  | .tup rs, .tup vs => ownL2 rs vs
  | r, v => own2 r v

def fros (H : AH) : AV → AV → List Nat
  | .tup rs, .tup vs => froL2 H rs vs
  | r, v => fro2 H r v

def apartB (own fro : List Nat) : Bool := decide (own.Nodup) && own.all fun b => !fro.contains b

/-- What a function's end must give for its contract. -/
def Pack (r : AV) (v : AV) (H : AH) : Prop := packP H r v ∧ apartB (owns r v) (fros H r v) = true

/-- A row as a new one. -/
def Blk.re : Blk → Blk
  | .arr e s z _ l => .arr e s z 0 l
  | b => b

theorem Blk.re_live {b : Blk} (h : b.re.live = true) : b.live = true := by cases b <;> first | rfl | exact h

/-- How the blocks that are handed back are numbered anew. -/
structure Ren (w : World) (c : Cx) (H : AH) (n : Nat) (I : List Nat) (c' : Cx) (H' : AH) : Prop where
  hM1 : ∀ cb, c'.M H' cb → c.M H cb
  hM2 : ∀ b, b ∉ I → ∀ cb, c.G b = some cb → ¬ c'.M H' cb
  at_ : ∀ (k : Nat) b blk, I[k]? = some b → H[b]? = some blk → H'[n + k]? = some blk.re ∧ c'.G (n + k) = c.G b

theorem packP1_ok {w : World} {c : Cx} {H : AH} {B n k : Nat} {I : List Nat} {c' : Cx} {H' : AH} (hs : HS w c H B) (ren : Ren w c H n I c' H') {r v : AV} {u : Value} (h : packP1 H r v) (hr : RA w c H v u)
    (hI : ∀ (j : Nat) b, (own1 r v)[j]? = some b → I[k + j]? = some b) (hF : ∀ b ∈ fro1 H r v, b ∉ I) :
    RA w c' H' (imp1 (n + k) r).1 u ∧ (imp1 (n + k) r).2 = (own1 r v).map (fun b => (H.getD b .dead).re) := by
  unfold packP1 at h
  split at h
  · rename_i e s z l b g i m
    obtain ⟨hb, rfl, rfl⟩ := h
    have hk := hI 0 b rfl
    obtain ⟨h1, h2⟩ := ren.at_ _ b _ hk hb
    cases hr with | sl _ _ _ _ _ blk hb' hm hv =>
    rw [hb] at hb'
    cases hb'
    rw [Nat.add_zero] at h1 h2
    refine ⟨.sl _ _ _ _ _ (.arr e s z 0 (.ts l)) h1 ⟨Nat.le_refl _, fun _ => ?_⟩ hv, by simp [imp1, own1, List.getD, hb, Blk.re]⟩
    obtain ⟨h3, h4⟩ := hm.2 rfl
    refine ⟨h3, ?_⟩
    rcases h4 with h4 | h4 | ⟨a1, cb, cap, off, a2, a3⟩
    · exact .inl h4
    · exact .inr (.inl h4)
    · exact .inr <| .inr ⟨a1, cb, cap, off, by rw [h2]; exact a2, a3⟩
  · rename_i x _
    rw [Option.map_eq_some_iff] at h
    obtain ⟨⟨y, ids⟩, hs1, rfl⟩ := h
    refine ⟨.t _ _ (snapF_ok hs ren.hM1 5000 hs1 hr fun b hb => ren.hM2 b (hF b ?_)), by simp [imp1, own1]⟩
    simp only [fro1, hs1]
    exact hb
  · exact h.elim

theorem imp1_len {H : AH} {r v : AV} {n : Nat} (h : (imp1 n r).2 = (own1 r v).map (fun b => (H.getD b .dead).re)) : (imp1 n r).2.length = (own1 r v).length := by rw [h]; simp

theorem packPL_ok {w : World} {c : Cx} {H : AH} {B n : Nat} {I : List Nat} {c' : Cx} {H' : AH} (hs : HS w c H B) (ren : Ren w c H n I c' H') : ∀ {rs vs : List AV} {us : List Value} {k : Nat}, packPL H rs vs → vs.length = us.length → (∀ (i : Nat) x u, vs[i]? = some x → us[i]? = some u → RA w c H x u) →
    (∀ (j : Nat) b, (ownL rs vs)[j]? = some b → I[k + j]? = some b) → (∀ b ∈ froL H rs vs, b ∉ I) →
    (impL (n + k) rs).1.length = us.length ∧ (∀ (i : Nat) x u, (impL (n + k) rs).1[i]? = some x → us[i]? = some u → RA w c' H' x u) ∧ (impL (n + k) rs).2 = (ownL rs vs).map (fun b => (H.getD b .dead).re)
  | [], [], us, k, h, hl, hr, hI, hF => ⟨by simpa [impL] using hl, by simp [impL], rfl⟩
  | r :: rs, v :: vs, [], k, h, hl, hr, hI, hF => by simp at hl
  | r :: rs, v :: vs, u :: us, k, h, hl, hr, hI, hF => by
    obtain ⟨h1, h2⟩ := packP1_ok (k := k) hs ren h.1 (hr 0 v u rfl rfl) (fun j b hj => hI j b (by rw [ownL, List.getElem?_append_left (lt_of_getElem? hj)]; exact hj)) (fun b hb => hF b (by simp [froL, hb]))
    have hlen := imp1_len h2
    obtain ⟨h3, h4, h5⟩ := packPL_ok (k := k + (imp1 (n + k) r).2.length) hs ren h.2 (us := us) (by simpa using hl) (fun i x q hi hq => hr (i + 1) x q hi hq) (fun j b hj => by
      have := hI ((own1 r v).length + j) b (by rw [ownL, List.getElem?_append_right (by omega)]; simpa using hj)
      rw [hlen, Nat.add_assoc]; exact this) (fun b hb => hF b (by simp [froL, hb]))
    refine ⟨?_, fun i x q hi hq => ?_, ?_⟩
    · simp only [impL, List.length_cons]; rw [Nat.add_assoc]; omega
    · simp only [impL] at hi
      cases i with
      | zero => simp at hi hq; subst hi hq; exact h1
      | succ i => simp at hi hq; rw [Nat.add_assoc] at hi; exact h4 i x q hi hq
    · simp only [impL, ownL, List.map_append]
      rw [Nat.add_assoc, h5, h2]

theorem RA.aggs {w c H} {rs : List AV} {vs : Array Value} (hl : rs.length = vs.toList.length) (h1 : rs.all AV.one = true) (hr : ∀ (i : Nat) x u, rs[i]? = some x → vs.toList[i]? = some u → RA w c H x u) : RA w c H (.agg rs) (.agg vs) := by
  rw [List.all_eq_true] at h1
  exact .agg rs vs (by simpa using hl) (fun i x hi => h1 x (List.mem_of_getElem? hi)) (fun i x v hi hv => hr i x v hi (by simpa using hv))

theorem imp1_one {n : Nat} {r : AV} (h : r.one = true) : (imp1 n r).1.one = true := by cases r <;> first | exact h | rfl | (simp [AV.one] at h)

theorem impL_one : ∀ {rs : List AV} {n : Nat}, rs.all AV.one = true → (impL n rs).1.all AV.one = true
  | [], n, _ => rfl
  | r :: rs, n, h => by
    simp only [List.all_cons, Bool.and_eq_true] at h
    simp only [impL, List.all_cons, imp1_one h.1, impL_one h.2, Bool.and_self]

theorem packP2_ok {w : World} {c : Cx} {H : AH} {B n k : Nat} {I : List Nat} {c' : Cx} {H' : AH} (hs : HS w c H B) (ren : Ren w c H n I c' H') {r v : AV} {u : Value} (h : packP2 H r v) (hr : RA w c H v u)
    (hI : ∀ (j : Nat) b, (own2 r v)[j]? = some b → I[k + j]? = some b) (hF : ∀ b ∈ fro2 H r v, b ∉ I) :
    RA w c' H' (imp2 (n + k) r).1 u ∧ (imp2 (n + k) r).2 = (own2 r v).map (fun b => (H.getD b .dead).re) := by
  unfold packP2 at h
  split at h
  · rename_i rs vs
    cases hr with | agg _ us hl h1 hrr =>
    obtain ⟨a1, a2, a3⟩ := packPL_ok (k := k) hs ren h.1 (us := us.toList) (by simpa using hl) (fun i x q hi hq => hrr i x q hi (by simpa using hq)) hI hF
    exact ⟨RA.aggs a1 (impL_one h.2) a2, a3⟩
  · rename_i hne
    have e1 : own2 r v = own1 r v := by unfold own2; split <;> first | rfl | exact (hne _ _ rfl rfl).elim
    have e2 : fro2 H r v = fro1 H r v := by unfold fro2; split <;> first | rfl | exact (hne _ _ rfl rfl).elim
    have e3 : ∀ m, imp2 m r = imp1 m r := by
      intro m
      cases r <;> first | rfl | skip
      simp only [packP1] at h
    rw [e1] at hI ⊢
    rw [e2] at hF
    rw [e3]
    exact packP1_ok hs ren h hr hI hF

theorem packPL2_ok {w : World} {c : Cx} {H : AH} {B n : Nat} {I : List Nat} {c' : Cx} {H' : AH} (hs : HS w c H B) (ren : Ren w c H n I c' H') : ∀ {rs vs : List AV} {us : List Value} {k : Nat}, packPL2 H rs vs → vs.length = us.length → (∀ (i : Nat) x u, vs[i]? = some x → us[i]? = some u → RA w c H x u) →
    (∀ (j : Nat) b, (ownL2 rs vs)[j]? = some b → I[k + j]? = some b) → (∀ b ∈ froL2 H rs vs, b ∉ I) →
    (impL2 (n + k) rs).1.length = us.length ∧ (∀ (i : Nat) x u, (impL2 (n + k) rs).1[i]? = some x → us[i]? = some u → RA w c' H' x u) ∧ (impL2 (n + k) rs).2 = (ownL2 rs vs).map (fun b => (H.getD b .dead).re)
  | [], [], us, k, h, hl, hr, hI, hF => ⟨by simpa [impL2] using hl, by simp [impL2], rfl⟩
  | r :: rs, v :: vs, [], k, h, hl, hr, hI, hF => by simp at hl
  | r :: rs, v :: vs, u :: us, k, h, hl, hr, hI, hF => by
    obtain ⟨h1, h2⟩ := packP2_ok (k := k) hs ren h.1 (hr 0 v u rfl rfl) (fun j b hj => hI j b (by rw [ownL2, List.getElem?_append_left (lt_of_getElem? hj)]; exact hj)) (fun b hb => hF b (by simp [froL2, hb]))
    have hlen : (imp2 (n + k) r).2.length = (own2 r v).length := by rw [h2]; simp
    obtain ⟨h3, h4, h5⟩ := packPL2_ok (k := k + (imp2 (n + k) r).2.length) hs ren h.2 (us := us) (by simpa using hl) (fun i x q hi hq => hr (i + 1) x q hi hq) (fun j b hj => by
      have := hI ((own2 r v).length + j) b (by rw [ownL2, List.getElem?_append_right (by omega)]; simpa using hj)
      rw [hlen, Nat.add_assoc]; exact this) (fun b hb => hF b (by simp [froL2, hb]))
    refine ⟨?_, fun i x q hi hq => ?_, ?_⟩
    · simp only [impL2, List.length_cons]; rw [Nat.add_assoc]; omega
    · simp only [impL2] at hi
      cases i with
      | zero => simp at hi hq; subst hi hq; exact h1
      | succ i => simp at hi hq; rw [Nat.add_assoc] at hi; exact h4 i x q hi hq
    · simp only [impL2, ownL2, List.map_append]
      rw [Nat.add_assoc, h5, h2]

theorem packP_ok {w : World} {c : Cx} {H : AH} {B n : Nat} {I : List Nat} {c' : Cx} {H' : AH} (hs : HS w c H B) (ren : Ren w c H n I c' H') {r v : AV} {u : Value} (h : packP H r v) (hr : RA w c H v u)
    (hI : owns r v = I) (hF : ∀ b ∈ fros H r v, b ∉ I) :
    RA w c' H' (imp n r).1 u ∧ (imp n r).2 = I.map (fun b => (H.getD b .dead).re) := by
  unfold packP at h
  split at h
  · rename_i rs vs
    cases hr with | tup _ us hl hrr =>
    obtain ⟨a1, a2, a3⟩ := packPL2_ok (k := 0) hs ren h (us := us.toList) (by simpa using hl) (fun i x q hi hq => hrr i x q hi (by simpa using hq)) (fun j b hj => by rw [← hI, Nat.zero_add]; exact hj) hF
    rw [← hI]
    exact ⟨.tup _ _ (by simpa using a1) (fun i x v hi hv => a2 i x v hi (by simpa using hv)), a3⟩
  · rename_i hne
    have e1 : owns r v = own2 r v := by unfold owns; split <;> first | rfl | exact (hne _ _ rfl rfl).elim
    have e2 : fros H r v = fro2 H r v := by unfold fros; split <;> first | rfl | exact (hne _ _ rfl rfl).elim
    have e3 : ∀ m, imp m r = imp2 m r := by
      intro m
      cases r <;> first | rfl | skip
      simp only [packP2, packP1] at h
    rw [e1] at hI
    rw [e2] at hF
    rw [e3, ← hI]
    exact packP2_ok (k := 0) hs ren h hr (fun j b hj => by rw [← hI, Nat.zero_add]; exact hj) hF

theorem packP_noRef : ∀ {H : AH} {r v : AV}, packP H r v → noRef r = true := by
  have p1 : ∀ {H : AH} {r v : AV}, packP1 H r v → noRef1 r = true := by
    intro H r v h
    cases r <;> first | rfl | (simp [packP1] at h)
  have pL : ∀ {H : AH} {rs vs : List AV}, packPL H rs vs → rs.all noRef1 = true := by
    intro H rs
    induction rs with
    | nil => intro vs h; rfl
    | cons r rs ih =>
      intro vs h
      cases vs with
      | nil => exact h.elim
      | cons v vs => simp only [List.all_cons, p1 h.1, ih h.2, Bool.and_self]
  have p2 : ∀ {H : AH} {r v : AV}, packP2 H r v → noRef2 r = true := by
    intro H r v h
    unfold packP2 at h
    split at h
    · exact pL h.1
    · have := p1 h
      cases r <;> first | exact this | (simp [noRef1] at this)
  have pL2 : ∀ {H : AH} {rs vs : List AV}, packPL2 H rs vs → rs.all noRef2 = true := by
    intro H rs
    induction rs with
    | nil => intro vs h; rfl
    | cons r rs ih =>
      intro vs h
      cases vs with
      | nil => exact h.elim
      | cons v vs => simp only [List.all_cons, p2 h.1, ih h.2, Bool.and_self]
  intro H r v h
  unfold packP at h
  split at h
  · exact pL2 h
  · have := p2 h
    cases r <;> first | exact this | (simp [noRef2, noRef1] at this)

/-- A function's contract, by a walk of its body. -/
theorem Runs.of_call {P : Program} {f : FuncId} {ts : List T} {r : AV} (h : CallS P f (ts.map .t) [] (Pack r)) (hn : noRef r = true) : Runs P f ts r := by
  refine ⟨hn, fun n F w vs hF hl hr => ?_⟩
  have hs0 : HS w ⟨F, fun _ => none⟩ [] w.heap.size := ⟨by simp, by simp, hF, Nat.le_refl _, by simp, by simp, by simp, by simp⟩
  have hM0 : ∀ cb, (Cx.mk F fun _ => none).M [] cb → F cb := by
    rintro cb (h | ⟨b, blk, hb, _⟩)
    · exact h
    · simp at hb
  refine (h w.heap.size ⟨F, fun _ => none⟩ w vs hs0 (by simpa using hl) (map_t fun i x v hi hv => (hr i x v hi hv).mono fun b _ hb => ⟨rfl, fun hm => hb (hM0 b hm)⟩)).mono ?_
  rintro e w' ⟨v, c', r', H', rfl, hra, hs, ev, hbel, hp, hap⟩
  simp only [apartB, Bool.and_eq_true, decide_eq_true_eq, List.all_eq_true] at hap
  obtain ⟨hnd, hdis⟩ := hap
  let I := owns r r'
  let G : Nat → Option Nat := fun b => if b < n then none else I[b - n]?.bind c'.G
  let Hn : AH := List.replicate n .dead ++ I.map (fun b => (H'.getD b .dead).re)
  have hGI : ∀ b cb, G b = some cb → n ≤ b ∧ ∃ b', I[b - n]? = some b' ∧ c'.G b' = some cb := by
    intro b cb hg
    simp only [G] at hg
    split at hg
    · cases hg
    · rename_i hge
      rw [Option.bind_eq_some_iff] at hg
      obtain ⟨b', h1, h2⟩ := hg
      exact ⟨by omega, b', h1, h2⟩
  have hget : ∀ (k : Nat) b, I[k]? = some b → Hn[n + k]? = some (H'.getD b .dead).re := by
    intro k b hk
    simp only [Hn]
    rw [List.getElem?_append_right (by simp)]
    simp [hk]
  have hback : ∀ b cb blk, G b = some cb → Hn[b]? = some blk → ∃ b' bk, I[b - n]? = some b' ∧ c'.G b' = some cb ∧ H'[b']? = some bk ∧ blk = bk.re := by
    intro b cb blk hg hb
    obtain ⟨h1, b', h2, h3⟩ := hGI b cb hg
    have := hget _ b' h2
    rw [show n + (b - n) = b by omega, hb] at this
    cases this
    have hlt := hs.dom b' cb h3
    exact ⟨b', H'[b'], h2, h3, List.getElem?_eq_getElem hlt, by simp [List.getD, hlt]⟩
  have ren : Ren w' c' H' n I ⟨F, G⟩ Hn := by
    refine ⟨?_, ?_, ?_⟩
    · rintro cb (hf | ⟨b, blk, hb, hlv, hg⟩)
      · exact .inl (by rw [ev.F]; exact hf)
      · obtain ⟨b', bk, h2, h3, h4, rfl⟩ := hback b cb blk hg hb
        exact .inr ⟨b', bk, h4, Blk.re_live hlv, h3⟩
    · rintro b hbI cb hg (hf | ⟨b2, blk, hb, hlv, hg2⟩)
      · have := hF cb hf; have := (hs.base b cb hg).1; omega
      · obtain ⟨b', bk, h2, h3, h4, _⟩ := hback b2 cb blk hg2 hb
        have := hs.inj b b' cb hg h3
        subst this
        exact hbI (List.mem_of_getElem? h2)
    · intro k b blk hk hb
      refine ⟨by rw [hget k b hk]; simp [List.getD, hb], ?_⟩
      simp only [G]
      rw [if_neg (by omega), show n + k - n = k by omega, hk]
      rfl
  have hdis' : ∀ b ∈ fros H' r r', b ∉ I := fun b hb hbI => by
    have := hdis b hbI
    simp at this
    exact this hb
  obtain ⟨ra, himp⟩ := packP_ok hs ren hp hra rfl hdis'
  have hHn : Hn = List.replicate n .dead ++ (imp n r).2 := by rw [himp]
  have hbel' : Below w.heap.size w w' := hbel
  refine ⟨v, G, rfl, hbel', fun b cb hg => (hGI b cb hg).1, by rw [← hHn]; exact ra, ?_⟩
  rw [← hHn]
  refine ⟨fun b b' cb h h' => ?_, fun b cb h => ?_, hF, hs.hB, fun b cb h => ?_, fun b cb cells hb hg => ?_, fun b cb e s z g l hb hg => ?_, fun b cb s p hb hg => ?_⟩
  · obtain ⟨h1, b1, h2, h3⟩ := hGI b cb h
    obtain ⟨h4, b2, h5, h6⟩ := hGI b' cb h'
    have := hs.inj b1 b2 cb h3 h6
    subst this
    have := (List.getElem?_inj (i := b - n) (j := b' - n) (lt_of_getElem? h2) hnd).1 (h2.trans h5.symm)
    omega
  · obtain ⟨h1, b1, h2, h3⟩ := hGI b cb h
    exact hs.base b1 cb h3
  · obtain ⟨h1, b1, h2, h3⟩ := hGI b cb h
    have := lt_of_getElem? h2
    simp [Hn]; omega
  · have harr := imp_arr n r
    rw [List.all_eq_true] at harr
    obtain ⟨h1, b1, h2, h3⟩ := hGI b cb hg
    rw [hHn, List.getElem?_append_right (by simpa using h1)] at hb
    have := harr _ (List.mem_of_getElem? hb)
    simp [Blk.isTs] at this
  · have harr := imp_arr n r
    rw [List.all_eq_true] at harr
    obtain ⟨h1, b1, h2, h3⟩ := hGI b cb hg
    have hb' := hb
    rw [hHn, List.getElem?_append_right (by simpa using h1)] at hb'
    have hts := harr _ (List.mem_of_getElem? hb')
    obtain ⟨b', bk, h2, h3, h4, hre⟩ := hback b cb _ hg hb
    have : ∃ g', bk = .arr e s z g' l ∧ g = 0 := by
      cases bk with
      | arr e1 s1 z1 g1 l1 => simp [Blk.re] at hre; obtain ⟨rfl, rfl, rfl, hg0, rfl⟩ := hre; exact ⟨_, rfl, hg0⟩
      | box => simp [Blk.re] at hre
      | dead => simp [Blk.re] at hre
      | iter => simp [Blk.re] at hre
    obtain ⟨g', rfl, hg0⟩ := this
    obtain ⟨arr, cap, a1, a2, a3, a4, a5⟩ := hs.arr b' cb e s z g' l h4 h3
    cases l with
    | vs l => simp [Blk.isTs] at hts
    | ts l =>
      refine ⟨arr, cap, a1, a2, ⟨a3.1, by omega⟩, a4, Rowed.ts.2 fun i x hi => ⟨(Rowed.ts.1 a5 i x hi).1, fun j y hj => ?_⟩⟩
      obtain ⟨q, q1, q2, q3, q4⟩ := (Rowed.ts.1 a5 i x hi).2 j y hj
      exact ⟨q, q1, q2, q3.mono fun b _ hb => ⟨rfl, fun hm => hb (ren.hM1 b hm)⟩, q4⟩
  · have harr := imp_arr n r
    rw [List.all_eq_true] at harr
    obtain ⟨h1, b1, h2, h3⟩ := hGI b cb hg
    rw [hHn, List.getElem?_append_right (by simpa using h1)] at hb
    have := harr _ (List.mem_of_getElem? hb)
    simp [Blk.isTs] at this

end Go.Proofs.YthpkehhghcpolaaDoor
