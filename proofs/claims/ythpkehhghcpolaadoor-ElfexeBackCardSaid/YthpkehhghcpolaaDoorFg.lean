/-
  The ground of the walks of this seat, part Fg.
-/
import Derived.Test.YthpkehhghcpolaaDoorFb
import Derived.Test.YthpkehhghcpolaaDoorRows
namespace Go.Proofs.YthpkehhghcpolaaDoor
open Go.RowKit
set_option linter.unusedVariables false

/-- The second says no more than the first. -/
inductive SubT : T → T → Prop
  | refl (x : T) : SubT x x
  | nils (s : Nat) : SubT .nils (.vecd s [])
  | vec (s : Nat) (l : List T) : SubT (.vec s l) (.vecd s l)
  | agg (cs ds : List T) (hl : cs.length = ds.length) (h : ∀ (i : Nat) c d, cs[i]? = some c → ds[i]? = some d → SubT c d) : SubT (.agg cs) (.agg ds)
  | iptr (cs ds : List T) (hl : cs.length = ds.length) (h : ∀ (i : Nat) c d, cs[i]? = some c → ds[i]? = some d → SubT c d) : SubT (.iptr cs) (.iptr ds)
  | deep (s : Nat) (l m : List T) (hl : l.length = m.length) (hc : ∀ (i : Nat) e e', l[i]? = some e → m[i]? = some e' → e.cells.length = e'.cells.length)
      (h : ∀ (i : Nat) e e' (j : Nat) c d, l[i]? = some e → m[i]? = some e' → e.cells[j]? = some c → e'.cells[j]? = some d → SubT c d) : SubT (.vec s l) (.vec s m)
  | deepd (s : Nat) (l m : List T) (hl : l.length = m.length) (hc : ∀ (i : Nat) e e', l[i]? = some e → m[i]? = some e' → e.cells.length = e'.cells.length)
      (h : ∀ (i : Nat) e e' (j : Nat) c d, l[i]? = some e → m[i]? = some e' → e.cells[j]? = some c → e'.cells[j]? = some d → SubT c d) : SubT (.vecd s l) (.vecd s m)
  | fn (f : Fn) (a b a' b' : List T) (ha : a.length = a'.length) (hb : b.length = b'.length) (h : ∀ (i : Nat) c d, a[i]? = some c → a'[i]? = some d → SubT c d) (k : ∀ (i : Nat) c d, b[i]? = some c → b'[i]? = some d → SubT c d) : SubT (.fn f a b) (.fn f a' b')
  | ifc (t : TypeId) (x y : T) (h : SubT x y) : SubT (.ifc t x) (.ifc t y)
  | trans (x y z : T) (h : SubT x y) (k : SubT y z) : SubT x z

theorem SubT.of_eq {x y : T} (h : x = y) : SubT x y := h ▸ .refl x

theorem SubT.one {x y : T} (h : SubT x y) : x.one = y.one := by
  induction h with
  | trans _ _ _ _ _ a b => exact a.trans b
  | _ => rfl

theorem SubT.cells {x y : T} (h : SubT x y) : x.cells.length = y.cells.length ∧ ∀ (j : Nat) c d, x.cells[j]? = some c → y.cells[j]? = some d → SubT c d := by
  have one : ∀ {x y : T}, x.cells = [x] → y.cells = [y] → SubT x y → x.cells.length = y.cells.length ∧ ∀ (j : Nat) c d, x.cells[j]? = some c → y.cells[j]? = some d → SubT c d := by
    intro x y hx hy h
    rw [hx, hy]
    refine ⟨rfl, fun j c d hc hd => ?_⟩
    cases j with
    | zero => simp at hc hd; subst hc hd; exact h
    | succ j => simp at hc
  induction h with
  | refl x => exact ⟨rfl, fun j c d hc hd => by rw [hc] at hd; cases hd; exact .refl c⟩
  | nils s => exact one rfl rfl (.nils s)
  | vec s l => exact one rfl rfl (.vec s l)
  | agg cs ds hl h _ => exact ⟨hl, h⟩
  | iptr cs ds hl h _ => exact one rfl rfl (.iptr cs ds hl h)
  | deep s l m hl hc h _ => exact one rfl rfl (.deep s l m hl hc h)
  | deepd s l m hl hc h _ => exact one rfl rfl (.deepd s l m hl hc h)
  | fn f a b a' b' ha hb h k _ _ => exact one rfl rfl (.fn f a b a' b' ha hb h k)
  | ifc t x y h _ => exact one rfl rfl (.ifc t x y h)
  | trans x y z h k ih ik =>
    refine ⟨ih.1.trans ik.1, fun j c d hc hd => ?_⟩
    have hj : j < y.cells.length := by rw [← ih.1]; exact lt_of_getElem? hc
    exact .trans _ _ _ (ih.2 j _ _ hc (List.getElem?_eq_getElem hj)) (ik.2 j _ _ (List.getElem?_eq_getElem hj) hd)

theorem get_of_len {α β : Type} {l : List α} {m : List β} (hl : l.length = m.length) {i : Nat} {b : β} (h : m[i]? = some b) : ∃ a, l[i]? = some a :=
  ⟨l[i]'(by rw [hl]; exact lt_of_getElem? h), List.getElem?_eq_getElem _⟩

theorem RT.sub {w : World} {M : Nat → Prop} {x y : T} (h : SubT x y) : ∀ {v : Value}, RT w M x v → RT w M y v := by
  have deep : ∀ {s : Nat} {l m : List T} {v : Value}, l.length = m.length → (∀ (i : Nat) e e', l[i]? = some e → m[i]? = some e' → e.cells.length = e'.cells.length) →
      (∀ (i : Nat) e e' (j : Nat) c d, l[i]? = some e → m[i]? = some e' → e.cells[j]? = some c → e'.cells[j]? = some d → SubT c d ∧ ∀ {v : Value}, RT w M c v → RT w M d v) → RT w M (.vec s l) v → RT w M (.vec s m) v := by
    intro s l m v hl hcl h hr
    cases hr with | vec _ _ b off cap sp vals hM hcap hsp hs hc hrr =>
    have hne : m ≠ [] → l ≠ [] := fun h e => h (List.eq_nil_of_length_eq_zero (by rw [← hl, e]; rfl))
    rw [hl] at hcap
    have cell : ∀ (i : Nat) e' (j : Nat) d, m[i]? = some e' → e'.cells[j]? = some d → ∃ e c, l[i]? = some e ∧ e.cells[j]? = some c := fun i e' j d hi hj => by
      obtain ⟨e, he⟩ := get_of_len hl hi
      obtain ⟨c, hc⟩ := get_of_len (hcl i e e' he hi) hj
      exact ⟨e, c, he, hc⟩
    have := RT.vec (w := w) (M := M) s m b off cap sp vals (fun a => hM (hne a)) hcap (fun a => hsp (hne a)) (fun i e' hi => by
        obtain ⟨e, he⟩ := get_of_len hl hi
        rw [← hcl i e e' he hi]; exact hs i e he)
      (fun i e' j d hi hj => by
        obtain ⟨e, c, he, hcc⟩ := cell i e' j d hi hj
        obtain ⟨h1, h2⟩ := hc i e j c he hcc
        exact ⟨h1, by rw [← (h i e e' j c d he hi hcc hj).1.one]; exact h2⟩)
      (fun i e' j d hi hj => by
        obtain ⟨e, c, he, hcc⟩ := cell i e' j d hi hj
        exact (h i e e' j c d he hi hcc hj).2 (hrr i e j c he hcc))
    rw [← hl] at this
    exact this
  induction h with
  | refl x => exact id
  | nils s => intro v hr; cases hr; exact .vecd0 s
  | vec s l => intro v hr; exact .vecd s l v hr
  | agg cs ds hl h ih =>
    intro v hr
    cases hr with | agg _ vs hlv h1 hrr =>
    refine .agg ds vs (by omega) (fun i d hi => ?_) (fun i d v hi hv => ?_)
    · obtain ⟨c, hc⟩ := get_of_len hl hi
      rw [← (h i c d hc hi).one]; exact h1 i c hc
    · obtain ⟨c, hc⟩ := get_of_len hl hi
      exact ih i c d hc hi (hrr i c v hc hv)
  | iptr cs ds hl h ih =>
    intro v hr
    cases hr with | iptr _ b off vals hM hc hrr =>
    refine .iptr ds b off vals (fun hne => hM fun e => hne (List.eq_nil_of_length_eq_zero (by rw [← hl, e]; rfl))) (fun i d hi => ?_) (fun i d hi => ?_)
    · obtain ⟨c, hcc⟩ := get_of_len hl hi
      obtain ⟨h1, h2⟩ := hc i c hcc
      exact ⟨h1, by rw [← (h i c d hcc hi).one]; exact h2⟩
    · obtain ⟨c, hcc⟩ := get_of_len hl hi
      exact ih i c d hcc hi (hrr i c hcc)
  | deep s l m hl hc h ih => intro v hr; exact deep hl hc (fun i e e' j c d a b e1 e2 => ⟨h i e e' j c d a b e1 e2, ih i e e' j c d a b e1 e2⟩) hr
  | deepd s l m hl hc h ih =>
    intro v hr
    rcases vecd_cases hr with ⟨h0, rfl⟩ | hr
    · obtain rfl : m = [] := List.eq_nil_of_length_eq_zero (by rw [← hl, h0]; rfl)
      exact .vecd0 s
    · exact .vecd _ _ _ (deep hl hc (fun i e e' j c d a b e1 e2 => ⟨h i e e' j c d a b e1 e2, ih i e e' j c d a b e1 e2⟩) hr)
  | fn f a b a' b' ha hb h k ih ik =>
    intro v hr
    cases hr with | fn _ _ _ p q h1 h2 h3 h4 =>
    refine .fn f a' b' p q (by omega) (by omega) (fun i d v hi hv => ?_) (fun i d v hi hv => ?_)
    · obtain ⟨c, hc⟩ := get_of_len ha hi
      exact ih i c d hc hi (h3 i c v hc hv)
    · obtain ⟨c, hc⟩ := get_of_len hb hi
      exact ik i c d hc hi (h4 i c v hc hv)
  | ifc t x y h ih =>
    intro v hr
    cases hr with | ifc _ _ v hr => exact .ifc t y v (ih hr)
  | trans x y z _ _ ih ik => intro v hr; exact ik (ih hr)

def SubL : List T → List T → Prop
  | [], [] => True
  | x :: r, y :: s => SubT x y ∧ SubL r s
  | _, _ => False

theorem SubL.get : ∀ {l m : List T}, SubL l m → l.length = m.length ∧ ∀ (i : Nat) c d, l[i]? = some c → m[i]? = some d → SubT c d
  | [], [], _ => ⟨rfl, by simp⟩
  | x :: r, y :: s, h => by
    obtain ⟨h1, h2⟩ := SubL.get h.2
    refine ⟨by simp [h1], fun i c d hc hd => ?_⟩
    cases i with
    | zero => simp at hc hd; subst hc hd; exact h.1
    | succ i => simp at hc hd; exact h2 i c d hc hd
  | [], _ :: _, h => h.elim
  | _ :: _, [], h => h.elim

theorem SubL.refl : ∀ (l : List T), SubL l l
  | [] => trivial
  | x :: r => ⟨.refl x, SubL.refl r⟩

/-- A row's elements, each of them saying less. -/
theorem SubT.deepS (s : Nat) {l m : List T} (hl : l.length = m.length) (h : ∀ (i : Nat) e e', l[i]? = some e → m[i]? = some e' → SubT e e') : SubT (.vec s l) (.vec s m) :=
  .deep s l m hl (fun i e e' a b => (h i e e' a b).cells.1) (fun i e e' j c d a b e1 e2 => (h i e e' a b).cells.2 j c d e1 e2)

theorem SubT.aggS {l m : List T} (h : SubL l m) : SubT (.agg l) (.agg m) := .agg _ _ h.get.1 h.get.2

/-- A contract for arguments that say more. -/
theorem Runs.sub {P : Program} {f : FuncId} {ts ts' : List T} {r : AV} (h : Runs P f ts' r) (hs : SubL ts ts') : Runs P f ts r := by
  obtain ⟨hl, hg⟩ := hs.get
  refine ⟨h.1, fun n F w vs hF hsz hr => h.2 n F w vs hF (by omega) fun i t v hi hv => ?_⟩
  obtain ⟨c, hc⟩ := get_of_len hl hi
  exact RT.sub (hg i c t hc hi) (hr i c v hc hv)

/-! ### What a walk holds as data, rows that may be nil told so -/

mutual
def snapDF : Nat → AH → AV → Option (T × List Nat)
  | 0, _, _ => none
  | k + 1, H, v =>
    match v with
    | .t x => some (x, [])
    | .sl b g i m =>
      match H[b]? with
      | some (.arr _ s z gen l) =>
        match Nat.beq g gen with
        | true => match z with
          | true => match l.part i m with
            | .ts q => some (.vecd s q, [b])
            | .vs q => match snapDL k H q with | some (q, ids) => some (.vecd s q, b :: ids) | none => none
          | false => match l.part i m with
            | .ts q => some (.vec s q, [b])
            | .vs q => match snapDL k H q with | some (q, ids) => some (.vec s q, b :: ids) | none => none
        | false => none
      | _ => none
    | .emp => some (.vec 0 [], [])
    | .ptr b _ _ o =>
      match H[b]? with
      | some (.box cells) => match snapDL k H (cells.drop o) with | some (l, ids) => some (.iptr l, b :: ids) | none => none
      | _ => none
    | .agg cs => match cs.all AV.one, snapDL k H cs with | true, some (l, ids) => some (.agg l, ids) | _, _ => none
    | .fn f a b => match snapDL k H a, snapDL k H b with | some (x, i), some (y, j) => some (.fn f x y, i ++ j) | _, _ => none
    | .ifc t v => match snapDF k H v with | some (x, i) => some (.ifc t x, i) | none => none
    | _ => none
def snapDL : Nat → AH → List AV → Option (List T × List Nat)
  | 0, _, _ => none
  | _ + 1, _, [] => some ([], [])
  | k + 1, H, v :: r => match snapDF k H v, snapDL k H r with | some (x, i), some (l, j) => some (x :: l, i ++ j) | _, _ => none
end

theorem snapD_rel (H : AH) : ∀ (k : Nat), (∀ v x' ids', snapDF k H v = some (x', ids') → ∃ x ids, snapF k H v = some (x, ids) ∧ (∀ b ∈ ids, b ∈ ids') ∧ SubT x x') ∧
    (∀ v x' ids', snapDL k H v = some (x', ids') → ∃ x ids, snapL k H v = some (x, ids) ∧ (∀ b ∈ ids, b ∈ ids') ∧ SubL x x')
  | 0 => ⟨fun v x' ids' h => by simp [snapDF] at h, fun v x' ids' h => by simp [snapDL] at h⟩
  | k + 1 => by
    obtain ⟨ihF, ihL⟩ := snapD_rel H k
    constructor
    · intro v x' ids' h
      simp only [snapDF] at h
      split at h
      · cases h; exact ⟨_, _, by simp only [snapF], fun _ h => h, .refl _⟩
      · rename_i b g i m
        cases hb : H[b]? with
        | none => rw [hb] at h; cases h
        | some blk =>
          rw [hb] at h
          cases blk with
          | dead => cases h
          | box => cases h
          | iter => cases h
          | arr e s z gen l =>
            simp only at h
            split at h
            · rename_i hg
              have row : ∀ {mk : Nat → List T → T} (hmk : ∀ {l m : List T}, SubL l m → SubT (.vec s l) (mk s m)), (match l.part i m with
                  | .ts q => some (mk s q, [b])
                  | .vs q => match snapDL k H q with | some (q, ids) => some (mk s q, b :: ids) | none => none) = some (x', ids') →
                  ∃ q q' ids, (match l.part i m with
                    | .ts q => some (T.vec s q, [b])
                    | .vs q => match snapL k H q with | some (q, ids) => some (T.vec s q, b :: ids) | none => none) = some (T.vec s q, ids) ∧ (∀ b ∈ ids, b ∈ ids') ∧ x' = mk s q' ∧ SubL q q' ∧ q'.length = (l.part i m).length := by
                intro mk hmk h
                split at h
                · rename_i q hq
                  cases h
                  rw [hq]
                  exact ⟨q, q, _, rfl, fun _ h => h, rfl, SubL.refl q, rfl⟩
                · rename_i q hq
                  rw [hq]
                  split at h
                  · rename_i q' js hl
                    cases h
                    obtain ⟨x, ids, h1, h2, h3⟩ := ihL _ _ _ hl
                    refine ⟨x, q', b :: ids, by simp only [h1], fun c hc => ?_, rfl, h3, ?_⟩
                    · simp only [List.mem_cons] at hc ⊢
                      exact hc.imp id (h2 c)
                    · rw [← h3.get.1]; exact (snapL_get k h1).1
                  · cases h
              split at h
              · -- it may be nil
                obtain ⟨q, q', ids, h1, h2, rfl, h3, h4⟩ := row (mk := .vecd) (fun {a c} hh => .trans _ _ _ (.deepS s hh.get.1 hh.get.2) (.vec s c)) h
                by_cases h0 : l.length = 0
                · have hq' : q' = [] := List.eq_nil_of_length_eq_zero (by rw [h4, Sq.part_length]; omega)
                  subst hq'
                  refine ⟨.nils, [], ?_, by simp, .nils s⟩
                  simp only [snapF, hb, hg, h0]
                  rfl
                · refine ⟨.vec s q, ids, ?_, h2, .trans _ _ _ (.deepS s h3.get.1 h3.get.2) (.vec s q')⟩
                  have hn : (true && Nat.beq l.length 0) = false := by
                    cases hh : Nat.beq l.length 0 with
                    | false => rfl
                    | true => exact (h0 (Nat.eq_of_beq_eq_true hh)).elim
                  simp only [snapF, hb, hg, hn]
                  exact h1
              · obtain ⟨q, q', ids, h1, h2, rfl, h3, h4⟩ := row (mk := .vec) (fun {a c} hh => .deepS s hh.get.1 hh.get.2) h
                refine ⟨.vec s q, ids, ?_, h2, .deepS s h3.get.1 h3.get.2⟩
                simp only [snapF, hb, hg, Bool.false_and]
                exact h1
            · cases h
      · cases h; exact ⟨_, _, by simp only [snapF], fun _ h => h, .refl _⟩
      · rename_i b g i o
        cases hb : H[b]? with
        | none => rw [hb] at h; cases h
        | some blk =>
          rw [hb] at h
          cases blk with
          | dead => cases h
          | arr => cases h
          | iter => cases h
          | box cells =>
            simp only at h
            split at h
            · rename_i l ids hl
              cases h
              obtain ⟨x, js, h1, h2, h3⟩ := ihL _ _ _ hl
              refine ⟨.iptr x, b :: js, by simp only [snapF, hb, h1], fun c hc => ?_, .iptr _ _ h3.get.1 h3.get.2⟩
              simp only [List.mem_cons] at hc ⊢
              exact hc.imp id (h2 c)
            · cases h
      · rename_i cs
        split at h
        · rename_i l ids ho hl
          cases h
          obtain ⟨x, js, h1, h2, h3⟩ := ihL _ _ _ hl
          exact ⟨.agg x, js, by simp only [snapF, ho, h1], h2, .aggS h3⟩
        · cases h
      · rename_i f a b
        split at h
        · rename_i x i y j hx hy
          cases h
          obtain ⟨x1, i1, h1, h2, h3⟩ := ihL _ _ _ hx
          obtain ⟨y1, j1, k1, k2, k3⟩ := ihL _ _ _ hy
          refine ⟨.fn f x1 y1, i1 ++ j1, by simp only [snapF, h1, k1], fun c hc => ?_, .fn f _ _ _ _ h3.get.1 k3.get.1 h3.get.2 k3.get.2⟩
          simp only [List.mem_append] at hc ⊢
          exact hc.imp (h2 c) (k2 c)
        · cases h
      · rename_i t v
        split at h
        · rename_i x i hx
          cases h
          obtain ⟨x1, i1, h1, h2, h3⟩ := ihF _ _ _ hx
          exact ⟨.ifc t x1, i1, by simp only [snapF, h1], h2, .ifc t _ _ h3⟩
        · cases h
      · cases h
    · intro v x' ids' h
      cases v with
      | nil => simp only [snapDL] at h; cases h; exact ⟨[], [], by simp only [snapL], by simp, trivial⟩
      | cons a r =>
        simp only [snapDL] at h
        split at h
        · rename_i x i l j hx hl
          cases h
          obtain ⟨x1, i1, h1, h2, h3⟩ := ihF _ _ _ hx
          obtain ⟨l1, j1, k1, k2, k3⟩ := ihL _ _ _ hl
          refine ⟨x1 :: l1, i1 ++ j1, by simp only [snapL, h1, k1], fun c hc => ?_, h3, k3⟩
          simp only [List.mem_append] at hc ⊢
          exact hc.imp (h2 c) (k2 c)
        · cases h

theorem SubL.trans : ∀ {a b c : List T}, SubL a b → SubL b c → SubL a c
  | [], [], [], _, _ => trivial
  | x :: r, y :: s, z :: t, h, k => ⟨.trans _ _ _ h.1 k.1, SubL.trans h.2 k.2⟩
  | [], [], _ :: _, _, k => k.elim
  | [], _ :: _, _, h, _ => h.elim
  | _ :: _, [], _, h, _ => h.elim
  | _ :: _, _ :: _, [], _, k => k.elim

/-- A call that reads rows of the walk's own. -/
theorem CallS.snapG {P : Program} {f : FuncId} {args : List AV} {ts' ts : List T} {ids : List Nat} {r : AV} {H : AH} {Q : AV → AH → Prop} (h : Runs P f ts r) (ha : snapDL 32 H args = some (ts', ids)) (hs : SubL ts' ts) (hf : Flat r)
    (k : Q (imp H.length r).1 (H ++ (imp H.length r).2)) : CallS P f args H Q := by
  obtain ⟨x, js, h1, _, h3⟩ := (snapD_rel H 32).2 _ _ _ ha
  exact CallS.snap (h.sub (h3.trans hs)) (by simp only [argsT, h1, Option.map_some]) hf k

/-- The rows that a call is handed are given up. -/
theorem CallS.frzG {P : Program} {f : FuncId} {args : List AV} {ts' ts : List T} {ids : List Nat} {r : AV} {H : AH} {Q : AV → AH → Prop} (h : Runs P f ts r) (ha : snapDL 32 H args = some (ts', ids)) (hsub : SubL ts' ts)
    (k : Q (imp H.length r).1 (hide ids H ++ (imp H.length r).2)) : CallS P f args H Q := by
  obtain ⟨x, js, h1, hji, h3⟩ := (snapD_rel H 32).2 _ _ _ ha
  have h := h.sub (h3.trans hsub)
  intro B c w vs hs hl hr
  obtain ⟨ev, hs'⟩ := hide_kill ids hs
  obtain ⟨hlen, hrt⟩ := snapL_ok hs (M' := c.M (hide ids H)) (fun cb hm => by
      rcases hm with hm | ⟨b, blk, hb, hlv, hg⟩
      · exact .inl hm
      · rcases hide_back ids hb with rfl | ⟨_, hb⟩
        · simp [Blk.live] at hlv
        · exact .inr ⟨b, blk, hb, hlv, hg⟩) 32 h1 (vs := vs.toList) (by simpa using hl.symm) (fun i x v hi hv => hr i x v hi (by simpa using hv))
    (fun b hb cb hg hm => by
      rcases hm with hm | ⟨b2, blk, hb2, hlv, hg2⟩
      · exact ((hs.fb cb hm).2 b hg).elim
      · have := hs.inj b b2 cb hg hg2
        subst this
        rcases hide_back ids hb2 with rfl | ⟨hn, _⟩
        · simp [Blk.live] at hlv
        · exact hn (hji b hb))
  have hts : toTs (x.map .t) = some x := by
    clear hrt hlen ha h h1 h3
    induction x with
    | nil => rfl
    | cons x r ih => simp only [List.map_cons, toTs, toT1, ih]
  have key := CallS.pure (H := hide ids H) (Q := Q) h hts (by rw [hide_len]; exact k) B c w vs hs' (by rw [List.length_map]; omega) (map_t fun i x v hi hv => hrt i x v hi (by simpa using hv))
  refine key.mono ?_
  rintro e w' ⟨v, c', r', H', he, h1, h2, h3, h4, h5⟩
  exact ⟨v, c', r', H', he, h1, h2, ev.trans h3, h4, h5⟩

end Go.Proofs.YthpkehhghcpolaaDoor

namespace Go.Proofs.YthpkehhghcpolaaDoor
open Go.RowKit
set_option linter.unusedVariables false

/-- The same, or what is read there. -/
inductive FrzA (ids : List Nat) (H H' : AH) : AV → AV → Prop
  | same (x : AV) : FrzA ids H H' x x
  | snap (x : AV) (t : T) (js : List Nat) (k : Nat) (h : snapF k H x = some (t, js)) (hj : ∀ b ∈ js, b ∈ ids) : FrzA ids H H' x (.t t)
  | nil (b e s : Nat) (h : H'[b]? = some (.arr e s true 0 (.ts []))) : FrzA ids H H' (.t .nils) (.sl b 0 0 0)
  | sub (x y : T) (h : SubT x y) : FrzA ids H H' (.t x) (.t y)
  | snapD (x : AV) (t t' : T) (js : List Nat) (k : Nat) (h : snapDF k H x = some (t, js)) (hs : SubT t t') (hj : ∀ b ∈ js, b ∈ ids) : FrzA ids H H' x (.t t')

inductive FrzB (ids : List Nat) (H H' : AH) : Blk → Blk → Prop
  | same (b : Blk) : FrzB ids H H' b b
  | box (cs cs' : List AV) (hl : cs'.length = cs.length) (h : ∀ (i : Nat) x x', cs[i]? = some x → cs'[i]? = some x' → FrzA ids H H' x x') : FrzB ids H H' (.box cs) (.box cs')
  | arr (e s : Nat) (z : Bool) (g : Nat) (l l' : Sq) (hl : l'.length = l.length)
      (h : ∀ (i : Nat) x', l'.get i = some x' → ∃ x, l.get i = some x ∧ x'.cells.length = x.cells.length ∧ ∀ (j : Nat) y', x'.cells[j]? = some y' → ∃ y, x.cells[j]? = some y ∧ FrzA ids H H' y y') : FrzB ids H H' (.arr e s z g l) (.arr e s z g l')

/-- A state in which rows are given up. -/
theorem frz_ok {w : World} {c : Cx} {H H' : AH} {B : Nat} (ids : List Nat) (hs : HS w c H B) (hlen : H'.length = H.length)
    (hblk : ∀ (b : Nat) blk', H'[b]? = some blk' → blk' = .dead ∨ (b ∉ ids ∧ ∃ blk, H[b]? = some blk ∧ FrzB ids H H' blk blk')) :
    Ev w c H w c H' ∧ HS w c H' B ∧ ∀ {x x' : AV} {v : Value}, FrzA ids H H' x x' → RA w c H x v → RA w c H' x' v := by
  have back : ∀ (b : Nat) blk', H'[b]? = some blk' → blk'.live = true → b ∉ ids ∧ ∃ blk, H[b]? = some blk ∧ blk.live = true ∧ FrzB ids H H' blk blk' := fun b blk' hb hl => by
    rcases hblk b blk' hb with rfl | ⟨h1, blk, h2, h3⟩
    · cases hl
    · refine ⟨h1, blk, h2, ?_, h3⟩
      cases h3 with
      | same => exact hl
      | box => rfl
      | arr => rfl
  have hM1 : ∀ cb, c.M H' cb → c.M H cb := fun cb hm => by
    rcases hm with hm | ⟨b, blk', hb, hlv, hg⟩
    · exact .inl hm
    · obtain ⟨_, blk, h2, h3, _⟩ := back b blk' hb hlv
      exact .inr ⟨b, blk, h2, h3, hg⟩
  have hM3 : ∀ cb, c.O H' cb → c.O H cb := fun cb ⟨b, blk', hb, hlv, hg⟩ => by
    obtain ⟨_, blk, h2, h3, _⟩ := back b blk' hb hlv
    exact ⟨b, blk, h2, h3, hg⟩
  have hM2 : ∀ b ∈ ids, ∀ cb, c.G b = some cb → ¬ c.M H' cb := fun b hb cb hg hm => by
    rcases hm with hm | ⟨b2, blk', hb2, hlv, hg2⟩
    · exact ((hs.fb cb hm).2 b hg).elim
    · have := hs.inj b b2 cb hg hg2
      subst this
      exact (back b blk' hb2 hlv).1 hb
  have ev : Ev w c H w c H' := by
    refine ⟨rfl, Nat.le_refl _, fun b blk hb => ?_, fun cb hm => .inl (hM3 cb hm), fun _ _ _ => rfl, fun _ _ _ _ h => h⟩
    have hlt : b < H'.length := by rw [hlen]; exact lt_of_getElem? hb
    have hget := List.getElem?_eq_getElem hlt
    generalize H'[b] = blk' at hget
    refine ⟨blk', hget, ?_⟩
    rcases hblk b _ hget with h | ⟨_, blk2, h2, h3⟩
    · rw [h]; cases blk <;> trivial
    · rw [hb] at h2; cases h2
      cases h3 with
      | same =>
        cases blk with
        | dead => trivial
        | box cs => exact ⟨rfl, fun _ h => h⟩
        | iter s p => exact ⟨rfl, fun _ h => h⟩
        | arr => exact ⟨rfl, rfl, rfl, Nat.le_refl _, Nat.le_refl _, fun _ => ⟨rfl, fun cb hc => ⟨hc, rfl⟩⟩⟩
      | box cs cs' hl h => exact ⟨hl.symm, fun _ h => h⟩
      | arr e s z g l l' hl h => exact ⟨rfl, rfl, rfl, by rw [hl]; exact Nat.le_refl _, Nat.le_refl _, fun _ => ⟨hl, fun cb hc => ⟨hc, rfl⟩⟩⟩
  have ra : ∀ {x x' : AV} {v : Value}, FrzA ids H H' x x' → RA w c H x v → RA w c H' x' v := fun {x x' v} hf hr => by
    cases hf with
    | same => exact hr.ev ev
    | snap _ t js k h hj => exact .t _ _ (snapF_ok hs hM1 k h hr fun b hb => hM2 b (hj b hb))
    | nil b e s h =>
      cases hr with | t _ _ hr =>
      cases hr
      exact .sl b 0 0 0 _ _ h ⟨Nat.le_refl _, fun _ => ⟨Nat.le_refl _, .inl ⟨rfl, rfl, rfl⟩⟩⟩
    | sub x y h =>
      cases hr with | t _ _ hr => exact (RA.t _ _ (RT.sub h hr)).ev ev
    | snapD _ t t' js k h hsb hj =>
      obtain ⟨x1, i1, h1, h2, h3⟩ := (snapD_rel H k).1 _ _ _ h
      exact .t _ _ (RT.sub (.trans _ _ _ h3 hsb) (snapF_ok hs hM1 k h1 hr fun b hb => hM2 b (hj b (h2 b hb))))
  have one : ∀ {x x' : AV}, FrzA ids H H' x x' → x.one = true → x'.one = true := fun {x x'} hf h1 => by
    cases hf with
    | same => exact h1
    | snap _ t js k h hj => exact snapF_one k h h1
    | nil => rfl
    | sub x y h => exact (show y.one = true from h.one ▸ (show x.one = true from h1))
    | snapD _ t t' js k h hsb hj =>
      obtain ⟨x2, i1, h2, _, h3⟩ := (snapD_rel H k).1 _ _ _ h
      have := snapF_one k h2 h1
      rw [h3.one, hsb.one] at this
      exact this
  refine ⟨ev, hs.keep ev hs.inj hs.base (fun b cb h => by rw [hlen]; exact hs.dom b cb h) (fun b cb cells hb hg => ?_) (fun b cb e s z g l hb hg => ?_) (fun b cb s p hb hg => ?_), ra⟩
  · obtain ⟨_, blk, h2, _, h3⟩ := back b _ hb rfl
    cases h3 with
    | same => exact .inl ⟨h2, hg, rfl⟩
    | box cs cs' hl h =>
      obtain ⟨arr, e, a1, a2, a3⟩ := hs.box b cb cs h2 hg
      refine .inr ⟨arr, e, a1, by omega, fun j x v hj hv => ?_⟩
      have hjl : j < cs.length := by have := lt_of_getElem? hj; omega
      have hx := List.getElem?_eq_getElem hjl
      obtain ⟨b1, b2, b3⟩ := a3 j _ v hx hv
      exact ⟨one (h j _ x hx hj) b1, ra (h j _ x hx hj) b2, b3⟩
  · obtain ⟨_, blk, h2, _, h3⟩ := back b _ hb rfl
    cases h3 with
    | same => exact .inl ⟨h2, hg, rfl⟩
    | arr e s z g l0 l' hl h =>
      obtain ⟨arr, cap, a1, a2, a3, a4, a5⟩ := hs.arr b cb e s z g l0 h2 hg
      refine .inr ⟨arr, cap, a1, a2, by rw [hl]; exact a3, a4, fun i x' hi => ?_⟩
      obtain ⟨x, hx, hcl, hy⟩ := h i x' hi
      obtain ⟨c1, c2⟩ := a5 i x hx
      refine ⟨by omega, fun j y' hj => ?_⟩
      obtain ⟨y, hy1, hy2⟩ := hy j y' hj
      obtain ⟨v, d1, d2, d3, d4⟩ := c2 j y hy1
      exact ⟨v, d1, one hy2 d2, ra hy2 d3, d4⟩
  · obtain ⟨_, blk, h2, _, h3⟩ := back b _ hb rfl
    cases h3 with
    | same => exact .inl ⟨h2, hg, rfl⟩

/-- Rows are given up at a loop's head. -/
theorem weak_frz {k0 : Nat} {s s' : St} (ids : List Nat) (hlen : s'.H.length = s.H.length)
    (hblk : ∀ (b : Nat) blk', s'.H[b]? = some blk' → blk' = .dead ∨ (b ∉ ids ∧ ∃ blk, s.H[b]? = some blk ∧ FrzB ids s.H s'.H blk blk'))
    (henv : ∀ t, lk s'.env t = .junk ∨ FrzA ids s.H s'.H (lk s.env t) (lk s'.env t)) : Weak k0 s s' := by
  intro O c a w _ hs
  obtain ⟨ev, hs', ra⟩ := frz_ok ids hs.hs hlen hblk
  refine ⟨c, fun t => ?_, hs', hs.size, hs.defers, hs.ev.trans ev, hs.below⟩
  rcases henv t with e | e
  · rw [e]; exact .junk _
  · exact ra e (hs.env t)

/-- A row of plain data but for its last element, which is given up as well. -/
theorem frz_last {ids : List Nat} {H H' : AH} (e s : Nat) (z : Bool) (g : Nat) (A : List T) (cs : List AV) (ts : List T) (hl : ts.length = cs.length) (h : ∀ (j : Nat) y t, cs[j]? = some y → ts[j]? = some t → FrzA ids H H' y (.t t)) :
    FrzB ids H H' (.arr e s z g (.vs (A.map .t ++ [.agg cs]))) (.arr e s z g (.ts (A ++ [.agg ts]))) := by
  refine .arr e s z g _ _ (by simp [Sq.length]) fun i x' hi => ?_
  simp only [Sq.get, Option.map_eq_some_iff] at hi ⊢
  obtain ⟨t, hi, rfl⟩ := hi
  by_cases hlt : i < A.length
  · rw [List.getElem?_append_left hlt] at hi
    refine ⟨.t t, by rw [List.getElem?_append_left (by simpa using hlt)]; simp [hi], rfl, fun j y' hj => ⟨y', hj, .same _⟩⟩
  · rw [List.getElem?_append_right (by omega)] at hi
    have hi0 : i - A.length = 0 := by have := lt_of_getElem? hi; simp at this; omega
    rw [hi0] at hi
    simp at hi
    subst hi
    refine ⟨.agg cs, by rw [List.getElem?_append_right (by simp; omega)]; simp [hi0], by simp [AV.cells, hl], fun j y' hj => ?_⟩
    simp only [AV.cells, List.getElem?_map, Option.map_eq_some_iff] at hj
    obtain ⟨t, ht, rfl⟩ := hj
    have hjl : j < cs.length := by have := lt_of_getElem? ht; omega
    exact ⟨cs[j], List.getElem?_eq_getElem hjl, h j _ t (List.getElem?_eq_getElem hjl) ht⟩

theorem agree_frz {ids : List Nat} {H H' : AH} {env env' : List (Nat × AV)} (h : Agree env env') (t : Nat) : lk env' t = .junk ∨ FrzA ids H H' (lk env t) (lk env' t) :=
  (agree_lk h t).imp id fun e => by rw [e]; exact .same _

/-- A row of the walk's own that has no place yet. -/
theorem weak_row {k0 : Nat} {env : List (Nat × AV)} {H : AH} (blk : Blk) : Weak k0 ⟨env, H⟩ ⟨env, H ++ [blk]⟩ := by
  intro O c a w _ hs
  obtain ⟨ev, hs'⟩ := new_none hs.hs blk
  exact ⟨c, fun t => (hs.env t).ev ev, hs', hs.size, hs.defers, hs.ev.trans ev, hs.below⟩

end Go.Proofs.YthpkehhghcpolaaDoor

namespace Go.Proofs.YthpkehhghcpolaaDoor
open Go.RowKit
set_option linter.unusedVariables false
set_option linter.unusedSimpArgs false

/-- Rows whose elements say less. -/
structure SubC (l m : List T) : Prop where
  hl : l.length = m.length
  hc : ∀ (i : Nat) e e', l[i]? = some e → m[i]? = some e' → e.cells.length = e'.cells.length
  h : ∀ (i : Nat) e e' (j : Nat) c d, l[i]? = some e → m[i]? = some e' → e.cells[j]? = some c → e'.cells[j]? = some d → SubT c d

theorem SubC.refl (l : List T) : SubC l l := ⟨rfl, fun i e e' a b => by rw [a] at b; cases b; rfl, fun i e e' j c d a b e1 e2 => by rw [a] at b; cases b; rw [e1] at e2; cases e2; exact .refl c⟩
theorem SubC.of_eq {l m : List T} (h : l = m) : SubC l m := h ▸ .refl l
theorem SubC.of_sub {l m : List T} (hl : l.length = m.length) (h : ∀ (i : Nat) e e', l[i]? = some e → m[i]? = some e' → SubT e e') : SubC l m :=
  ⟨hl, fun i e e' a b => (h i e e' a b).cells.1, fun i e e' j c d a b e1 e2 => (h i e e' a b).cells.2 j c d e1 e2⟩
theorem SubC.map {α : Type} {f g : α → T} (h : ∀ a, SubT (f a) (g a)) (l : List α) : SubC (l.map f) (l.map g) :=
  .of_sub (by simp) fun i e e' a b => by
    simp only [List.getElem?_map, Option.map_eq_some_iff] at a b
    obtain ⟨x, hx, rfl⟩ := a
    obtain ⟨y, hy, rfl⟩ := b
    rw [hx] at hy; cases hy
    exact h x
theorem SubC.append {a b c d : List T} (h : SubC a c) (k : SubC b d) : SubC (a ++ b) (c ++ d) := by
  have key : ∀ (i : Nat) e e', (a ++ b)[i]? = some e → (c ++ d)[i]? = some e' → (∃ i : Nat, a[i]? = some e ∧ c[i]? = some e') ∨ ∃ i : Nat, b[i]? = some e ∧ d[i]? = some e' := by
    intro i e e' h1 h2
    by_cases hlt : i < a.length
    · rw [List.getElem?_append_left hlt] at h1
      rw [List.getElem?_append_left (by rw [← h.hl]; exact hlt)] at h2
      exact .inl ⟨i, h1, h2⟩
    · rw [List.getElem?_append_right (by omega)] at h1
      rw [List.getElem?_append_right (by rw [← h.hl]; omega), ← h.hl] at h2
      exact .inr ⟨_, h1, h2⟩
  refine ⟨by simp [h.hl, k.hl], fun i e e' h1 h2 => ?_, fun i e e' j x y h1 h2 h3 h4 => ?_⟩
  · rcases key i e e' h1 h2 with ⟨i, q1, q2⟩ | ⟨i, q1, q2⟩
    · exact h.hc i e e' q1 q2
    · exact k.hc i e e' q1 q2
  · rcases key i e e' h1 h2 with ⟨i, q1, q2⟩ | ⟨i, q1, q2⟩
    · exact h.h i e e' j x y q1 q2 h3 h4
    · exact k.h i e e' j x y q1 q2 h3 h4

theorem SubC.toVec {l m : List T} (s : Nat) (h : SubC l m) : SubT (.vec s l) (.vec s m) := .deep s l m h.hl h.hc h.h
theorem SubC.toVecD {l m : List T} (s : Nat) (h : SubC l m) : SubT (.vec s l) (.vecd s m) := .trans _ _ _ (h.toVec s) (.vec s m)

/-- A row of the walk's own at a loop's head. -/
theorem SubC.frz {ids : List Nat} {H H' : AH} {l m : List T} (h : SubC l m) (e s : Nat) (z : Bool) (g : Nat) : FrzB ids H H' (.arr e s z g (.ts l)) (.arr e s z g (.ts m)) := by
  refine .arr e s z g _ _ h.hl.symm fun i x' hi => ?_
  obtain ⟨e', hi', rfl⟩ := ts_get hi
  obtain ⟨x, hx⟩ := get_of_len h.hl hi'
  refine ⟨.t x, by simp [Sq.get, hx], by rw [T.cells_t, T.cells_t, List.length_map, List.length_map, h.hc i x e' hx hi'], fun j y' hj => ?_⟩
  rw [T.cells_t] at hj ⊢
  simp only [List.getElem?_map, Option.map_eq_some_iff] at hj ⊢
  obtain ⟨d, hd, rfl⟩ := hj
  obtain ⟨c, hc⟩ := get_of_len (h.hc i x e' hx hi') hd
  exact ⟨_, ⟨c, hc, rfl⟩, .sub c d (h.h i x e' j c d hx hi' hc hd)⟩

inductive SubA1 : AV → AV → Prop
  | t (x y : T) (h : SubT x y) : SubA1 (.t x) (.t y)
  | own (e s : Nat) (z : Bool) (l m : List T) (h : SubC l m) : SubA1 (.own e s z l) (.own e s z m)

def SubAL : List AV → List AV → Prop
  | [], [] => True
  | x :: r, y :: s => SubA1 x y ∧ SubAL r s
  | _, _ => False

/-- What is handed back says less. -/
inductive SubA : AV → AV → Prop
  | one (x y : AV) (h : SubA1 x y) : SubA x y
  | tup (l m : List AV) (h : SubAL l m) : SubA (.tup l) (.tup m)

def BlkSub (a b : Blk) : Prop := ∃ e s z l m, SubC l m ∧ a = .arr e s z 0 (.ts l) ∧ b = .arr e s z 0 (.ts m)

theorem imp1_sub {x y : AV} (n : Nat) (h : SubA1 x y) : ((∃ a b, SubT a b ∧ (imp2 n x).1 = .t a ∧ (imp2 n y).1 = .t b) ∨ (imp2 n x).1 = (imp2 n y).1) ∧ (imp2 n x).2.length = (imp2 n y).2.length ∧ ∀ (i : Nat) a b, (imp2 n x).2[i]? = some a → (imp2 n y).2[i]? = some b → BlkSub a b := by
  cases h with
  | t x y h => exact ⟨.inl ⟨x, y, h, rfl, rfl⟩, rfl, by simp [imp2, imp1]⟩
  | own e s z l m h =>
    refine ⟨.inr ?_, rfl, fun i a b ha hb => ?_⟩
    · show AV.sl n 0 0 l.length = .sl n 0 0 m.length
      rw [h.hl]
    · simp only [imp2, imp1] at ha hb
      cases i with
      | zero => simp at ha hb; subst ha hb; exact ⟨e, s, z, l, m, h, rfl, rfl⟩
      | succ i => simp at ha

theorem impL2_sub : ∀ {l m : List AV} (n : Nat), SubAL l m → (impL2 n l).1.length = (impL2 n m).1.length ∧ (∀ (i : Nat) x y, (impL2 n l).1[i]? = some x → (impL2 n m).1[i]? = some y → (∃ a b, SubT a b ∧ x = .t a ∧ y = .t b) ∨ x = y) ∧
    (impL2 n l).2.length = (impL2 n m).2.length ∧ ∀ (i : Nat) a b, (impL2 n l).2[i]? = some a → (impL2 n m).2[i]? = some b → BlkSub a b
  | [], [], n, _ => ⟨rfl, by simp [impL2], rfl, by simp [impL2]⟩
  | x :: r, y :: s, n, h => by
    obtain ⟨h1, h2, h3⟩ := imp1_sub n h.1
    obtain ⟨k1, k2, k3, k4⟩ := impL2_sub (n + (imp2 n x).2.length) h.2
    simp only [impL2, ← h2]
    refine ⟨by simp [k1], fun i a b ha hb => ?_, by simp only [List.length_append, k3]; omega, fun i a b ha hb => ?_⟩
    · cases i with
      | zero =>
        simp at ha hb; subst ha hb
        rcases h1 with ⟨p, q, e1, e2, e3⟩ | h1
        · exact .inl ⟨p, q, e1, e2, e3⟩
        · exact .inr h1
      | succ i => simp at ha hb; exact k2 i a b ha hb
    · by_cases hlt : i < (imp2 n x).2.length
      · rw [List.getElem?_append_left hlt] at ha
        rw [List.getElem?_append_left (by rw [← h2]; exact hlt)] at hb
        exact h3 i a b ha hb
      · rw [List.getElem?_append_right (by omega)] at ha
        rw [List.getElem?_append_right (by rw [← h2]; omega), ← h2] at hb
        exact k4 _ a b ha hb
  | [], _ :: _, n, h => h.elim
  | _ :: _, [], n, h => h.elim

theorem SubAL.noRef : ∀ {l m : List AV}, SubAL l m → m.all noRef2 = true
  | [], [], _ => rfl
  | x :: r, y :: s, h => by
    have h1 : noRef2 y = true := by cases h.1 <;> rfl
    simp only [List.all_cons, h1, SubAL.noRef h.2, Bool.and_self]
  | [], _ :: _, h => h.elim
  | _ :: _, [], h => h.elim

theorem out_sub {n : Nat} {F : Nat → Prop} {G : Nat → Option Nat} {w : World} {B : Nat} {r0 r : AV} {v : Value} (hs : SubA r0 r)
    (h1 : RA w ⟨F, G⟩ (List.replicate n .dead ++ (imp n r0).2) (imp n r0).1 v) (h2 : HS w ⟨F, G⟩ (List.replicate n .dead ++ (imp n r0).2) B) :
    RA w ⟨F, G⟩ (List.replicate n .dead ++ (imp n r).2) (imp n r).1 v ∧ HS w ⟨F, G⟩ (List.replicate n .dead ++ (imp n r).2) B := by
  have blks : (imp n r0).2.length = (imp n r).2.length ∧ ∀ (i : Nat) a b, (imp n r0).2[i]? = some a → (imp n r).2[i]? = some b → BlkSub a b := by
    cases hs with
    | one _ _ h =>
      have e : ∀ x : AV, SubA1 r0 r → (imp n r0) = imp2 n r0 ∧ (imp n r) = imp2 n r := fun _ h => by cases h <;> exact ⟨rfl, rfl⟩
      obtain ⟨e1, e2⟩ := e r h
      rw [e1, e2]
      exact (imp1_sub n h).2
    | tup l m h => exact (impL2_sub n h).2.2
  obtain ⟨ev, hs', ra⟩ := frz_ok (H' := List.replicate n .dead ++ (imp n r).2) [] h2 (by simp [blks.1]) (fun b blk' hb => by
    by_cases hlt : b < n
    · exact .inl (dead_lt hlt hb)
    · refine .inr ⟨by simp, ?_⟩
      rw [List.getElem?_append_right (by simp; omega), List.length_replicate] at hb
      obtain ⟨blk, hb0⟩ := get_of_len blks.1 hb
      refine ⟨blk, by rw [List.getElem?_append_right (by simp; omega), List.length_replicate]; exact hb0, ?_⟩
      obtain ⟨e, s, z, l, m, hc, rfl, rfl⟩ := blks.2 _ _ _ hb0 hb
      exact hc.frz e s z 0)
  refine ⟨?_, hs'⟩
  have one : ∀ {x y : AV} {u : Value}, ((∃ a b, SubT a b ∧ x = .t a ∧ y = .t b) ∨ x = y) → RA w ⟨F, G⟩ (List.replicate n .dead ++ (imp n r0).2) x u → RA w ⟨F, G⟩ (List.replicate n .dead ++ (imp n r).2) y u := by
    intro x y u h hr
    rcases h with ⟨a, b, e1, rfl, rfl⟩ | rfl
    · exact ra (.sub a b e1) hr
    · exact ra (.same _) hr
  cases hs with
  | one _ _ h =>
    have e : ∀ x : AV, SubA1 r0 r → (imp n r0) = imp2 n r0 ∧ (imp n r) = imp2 n r := fun _ h => by cases h <;> exact ⟨rfl, rfl⟩
    obtain ⟨e1, e2⟩ := e r h
    rw [e1] at h1 one
    rw [e2] at one ⊢
    exact one (imp1_sub n h).1 h1
  | tup l m h =>
    obtain ⟨k1, k2, _⟩ := impL2_sub n h
    cases h1 with | tup _ vs hl hr =>
    refine .tup _ vs (by omega) fun i y u hi hu => ?_
    obtain ⟨x, hx⟩ := get_of_len k1 hi
    exact one (k2 i x y hx hi) (hr i x u hx hu)

theorem SubA.noRef {r0 r : AV} (hs : SubA r0 r) : noRef r = true := by
  cases hs with
  | one _ _ h => cases h <;> rfl
  | tup l m h => exact h.noRef

/-- A contract whose result says less. -/
theorem Runs.subR {P : Program} {f : FuncId} {ts : List T} {r0 r : AV} (h : Runs P f ts r0) (hs : SubA r0 r) : Runs P f ts r :=
  ⟨hs.noRef, fun n F w vs hF hl hr => (h.2 n F w vs hF hl hr).mono fun e w' ⟨v, G, h1, h2, h3, h4, h5⟩ => by
    obtain ⟨k1, k2⟩ := out_sub hs h4 h5
    exact ⟨v, G, h1, h2, h3, k1, k2⟩⟩

/-! ### A function's end -/

def packD1 (H : AH) : AV → AV → Prop
  | .own e s z l, .sl b g i m => ∃ l0, H[b]? = some (.arr e s z g (.ts l0)) ∧ i = 0 ∧ m = l0.length ∧ SubC l0 l
  | .t x, v => ∃ y ids, snapDF 5000 H v = some (y, ids) ∧ SubT y x
  | _, _ => False

def froD1 (H : AH) : AV → AV → List Nat
  | .t _, v => match snapDF 5000 H v with | some (_, ids) => ids | none => []
  | _, _ => []

def packDL (H : AH) : List AV → List AV → Prop
  | [], [] => True
  | r :: rs, v :: vs => packD1 H r v ∧ packDL H rs vs
  | _, _ => False

def froDL (H : AH) : List AV → List AV → List Nat
  | r :: rs, v :: vs => froD1 H r v ++ froDL H rs vs
  | _, _ => []

def PackD (r : AV) (v : AV) (H : AH) : Prop :=
  match r, v with
  | .tup rs, .tup vs => packDL H rs vs ∧ apartB (ownL rs vs) (froDL H rs vs) = true
  | r, v => packD1 H r v

theorem packD1_ok {H : AH} {r v : AV} (h : packD1 H r v) : ∃ r0, SubA1 r0 r ∧ packP1 H r0 v ∧ own1 r0 v = own1 r v ∧ (∀ b ∈ fro1 H r0 v, b ∈ froD1 H r v) ∧ (own1 r0 v = [] ∨ fro1 H r0 v = []) ∧ (own1 r0 v).Nodup := by
  unfold packD1 at h
  split at h
  · rename_i e s z l b g i m
    obtain ⟨l0, h1, h2, h3, h4⟩ := h
    exact ⟨.own e s z l0, .own e s z l0 l h4, ⟨h1, h2, h3⟩, rfl, by simp [fro1], .inr rfl, by simp [own1]⟩
  · rename_i x
    obtain ⟨y, ids, h1, h2⟩ := h
    obtain ⟨y0, js, k1, k2, k3⟩ := (snapD_rel H 5000).1 _ _ _ h1
    refine ⟨.t y0, .t y0 x (.trans _ _ _ k3 h2), by simp only [packP1, k1, Option.map_some], rfl, fun b hb => ?_, .inl rfl, by simp [own1]⟩
    simp only [fro1, k1] at hb
    simp only [froD1, h1]
    exact k2 b hb
  · exact h.elim

theorem packDL_ok {H : AH} : ∀ {rs vs : List AV}, packDL H rs vs → ∃ r0, SubAL r0 rs ∧ packPL2 H r0 vs ∧ ownL2 r0 vs = ownL rs vs ∧ (∀ b ∈ froL2 H r0 vs, b ∈ froDL H rs vs)
  | [], [], _ => ⟨[], trivial, trivial, rfl, by simp [froL2]⟩
  | r :: rs, v :: vs, h => by
    obtain ⟨x, h1, h2, h3, h4, _, _⟩ := packD1_ok h.1
    obtain ⟨l, k1, k2, k3, k4⟩ := packDL_ok h.2
    have e : packP2 H x v = packP1 H x v ∧ own2 x v = own1 x v ∧ fro2 H x v = fro1 H x v := by cases h1 <;> exact ⟨rfl, rfl, rfl⟩
    refine ⟨x :: l, ⟨h1, k1⟩, ⟨by rw [e.1]; exact h2, k2⟩, by simp only [ownL2, ownL, e.2.1, h3, k3], fun b hb => ?_⟩
    simp only [froL2, froDL, List.mem_append, e.2.2] at hb ⊢
    exact hb.imp (h4 b) (k4 b)
  | [], _ :: _, h => h.elim
  | _ :: _, [], h => h.elim

theorem apart_sub {own a b : List Nat} (h : apartB own b = true) (hs : ∀ x ∈ a, x ∈ b) : apartB own a = true := by
  simp only [apartB, Bool.and_eq_true, decide_eq_true_eq, List.all_eq_true] at h ⊢
  refine ⟨h.1, fun x hx => ?_⟩
  have := h.2 x hx
  simp at this ⊢
  exact fun hxa => this (hs x hxa)

theorem PackD.ok {r v : AV} {H : AH} (h : PackD r v H) : ∃ r0, SubA r0 r ∧ Pack r0 v H := by
  have single : packD1 H r v → ∃ r0, SubA r0 r ∧ Pack r0 v H := fun h => by
    obtain ⟨x, h1, h2, h3, h4, h5, h6⟩ := packD1_ok h
    have e : packP H x v = packP1 H x v ∧ owns x v = own1 x v ∧ fros H x v = fro1 H x v := by cases h1 <;> exact ⟨rfl, rfl, rfl⟩
    refine ⟨x, .one _ _ h1, by rw [e.1]; exact h2, ?_⟩
    rw [e.2.1, e.2.2]
    simp only [apartB, Bool.and_eq_true, decide_eq_true_eq, List.all_eq_true]
    refine ⟨h6, fun b hb => ?_⟩
    rcases h5 with h5 | h5
    · rw [h5] at hb; simp at hb
    · rw [h5]; rfl
  unfold PackD at h
  split at h
  · obtain ⟨l, k1, k2, k3, k4⟩ := packDL_ok h.1
    exact ⟨.tup l, .tup _ _ k1, k2, by simp only [owns, fros, k3]; exact apart_sub h.2 k4⟩
  · exact single h

/-- A function's contract, by a walk of its body. -/
theorem Runs.of_callD {P : Program} {f : FuncId} {ts : List T} {r : AV} (h : CallS P f (ts.map .t) [] (PackD r)) (hn : noRef r = true) : Runs P f ts r := by
  refine ⟨hn, fun n F w vs hF hl hr => ?_⟩
  have hs0 : HS w ⟨F, fun _ => none⟩ [] w.heap.size := ⟨by simp, by simp, fun cb hf => ⟨hF cb hf, fun b hb => by cases hb⟩, Nat.le_refl _, by simp, by simp, by simp, by simp⟩
  have hM0 : ∀ cb, (Cx.mk F fun _ => none).M [] cb → F cb := by
    rintro cb (h | ⟨b, blk, hb, _⟩)
    · exact h
    · simp at hb
  refine (h w.heap.size ⟨F, fun _ => none⟩ w vs hs0 (by simpa using hl) (map_t fun i x v hi hv => (hr i x v hi hv).mono fun b _ hb => ⟨rfl, fun hm => hb (hM0 b hm)⟩)).mono ?_
  rintro e w' ⟨v, c', r', H', rfl, hra, hs, ev, hbel, hp⟩
  obtain ⟨r0, h1, h2⟩ := hp.ok
  obtain ⟨v', G, k1, k2, k3, k4, k5⟩ := pack_out n hF hra hs ev hbel h2
  cases k1
  obtain ⟨q1, q2⟩ := out_sub h1 k4 k5
  exact ⟨_, G, rfl, k2, k3, q1, q2⟩

end Go.Proofs.YthpkehhghcpolaaDoor

namespace Go.Proofs.YthpkehhghcpolaaDoor
open Go.RowKit
set_option linter.unusedVariables false
set_option linter.unusedSimpArgs false

/-- The function's result is one of 'S'. -/
def RunsX (P : Program) (f : FuncId) (ts : List T) (S : AV → Prop) : Prop :=
  (∀ r, S r → noRef r = true) ∧ ∀ (n : Nat) (F : Nat → Prop) (w : World) (vs : Array Value), (∀ cb, F cb → cb < w.heap.size) → vs.size = ts.length →
    (∀ (i : Nat) t v, ts[i]? = some t → vs[i]? = some v → RT w F t v) →
    Gets P f vs w fun e w' => ∃ r v G, S r ∧ e = .returned v ∧ Below w.heap.size w w' ∧ (∀ b cb, G b = some cb → n ≤ b) ∧
      RA w' ⟨F, G⟩ (List.replicate n .dead ++ (imp n r).2) (imp n r).1 v ∧ HS w' ⟨F, G⟩ (List.replicate n .dead ++ (imp n r).2) w.heap.size

theorem RunsX.of_call {P : Program} {f : FuncId} {ts : List T} {S : AV → Prop} (h : CallS P f (ts.map .t) [] (fun v H => ∃ r, S r ∧ PackD r v H)) (hn : ∀ r, S r → noRef r = true) : RunsX P f ts S := by
  refine ⟨hn, fun n F w vs hF hl hr => ?_⟩
  have hs0 : HS w ⟨F, fun _ => none⟩ [] w.heap.size := ⟨by simp, by simp, fun cb hf => ⟨hF cb hf, fun b hb => by cases hb⟩, Nat.le_refl _, by simp, by simp, by simp, by simp⟩
  have hM0 : ∀ cb, (Cx.mk F fun _ => none).M [] cb → F cb := by
    rintro cb (h | ⟨b, blk, hb, _⟩)
    · exact h
    · simp at hb
  refine (h w.heap.size ⟨F, fun _ => none⟩ w vs hs0 (by simpa using hl) (map_t fun i x v hi hv => (hr i x v hi hv).mono fun b _ hb => ⟨rfl, fun hm => hb (hM0 b hm)⟩)).mono ?_
  rintro e w' ⟨v, c', r', H', rfl, hra, hs, ev, hbel, r, hS, hp⟩
  obtain ⟨r0, h1, h2⟩ := hp.ok
  obtain ⟨v', G, k1, k2, k3, k4, k5⟩ := pack_out n hF hra hs ev hbel h2
  cases k1
  obtain ⟨q1, q2⟩ := out_sub h1 k4 k5
  exact ⟨r, _, G, hS, rfl, k2, k3, q1, q2⟩

theorem CallS.pureX {P : Program} {f : FuncId} {args : List AV} {ts : List T} {S : AV → Prop} {H : AH} {Q : AV → AH → Prop} (h : RunsX P f ts S) (ha : toTs args = some ts) (k : ∀ r, S r → Q (imp H.length r).1 (H ++ (imp H.length r).2)) :
    CallS P f args H Q := by
  intro B c w vs hs hl hr
  have hts := toTs_spec ha
  refine (h.2 H.length (c.M H) w vs (fun cb hcb => M_lt hs hcb) (by rw [hl, hts]; simp) (fun i t v hi hv => ?_)).mono fun e w' ⟨r, v, G, hS, he, hbel, hG, hra, hs'⟩ => ?_
  · have := hr i (.t t) v (by rw [hts]; simp [hi]) hv
    cases this with | t _ _ h => exact h
  · obtain ⟨ev, hs2⟩ := join (Hb := (imp H.length r).2) hs hbel hG hs' (imp_arr _ _) (fun b e s z g l i x j y v hb hi hj hrt => hrt.mono fun cb _ hcb => ⟨rfl, join_M (fun _ h => h) hcb⟩)
    refine ⟨v, _, _, _, he, ?_, hs2, ev, ?_, k r hS⟩
    · exact hra.shift (n := H.length) (fun cb hcb => join_M (fun _ h => h) hcb) (fun b hb => get_dead rfl hb) (fun b hb => by simp only [if_neg (Nat.not_lt.2 hb)]) (imp_ge (h.1 r hS))
    · exact hbel.mono hs.hB

theorem toTs_map (l : List T) : toTs (l.map .t) = some l := by
  induction l with
  | nil => rfl
  | cons x r ih => simp only [List.map_cons, toTs, toT1, ih]

theorem RunsX.sub {P : Program} {f : FuncId} {ts ts' : List T} {S : AV → Prop} (h : RunsX P f ts' S) (hs : SubL ts ts') : RunsX P f ts S := by
  obtain ⟨hl, hg⟩ := hs.get
  refine ⟨h.1, fun n F w vs hF hsz hr => h.2 n F w vs hF (by omega) fun i t v hi hv => ?_⟩
  obtain ⟨c, hc⟩ := get_of_len hl hi
  exact RT.sub (hg i c t hc hi) (hr i c v hc hv)

end Go.Proofs.YthpkehhghcpolaaDoor

namespace Go.Proofs.YthpkehhghcpolaaDoor
open Go.ChangeShapes Go.WideShapes Go.ChangeAt Go.RowKit
set_option linter.unusedVariables false
set_option linter.unusedSimpArgs false

/-- No string and no list in it is longer. -/
inductive SmallT (N : Nat) : T → Prop
  | bool (b : Bool) : SmallT N (.bool b)
  | int (k : IntKind) (n : Int) : SmallT N (.int k n)
  | str (s : List UInt8) (h : s.length ≤ N) : SmallT N (.str s)
  | nils : SmallT N .nils
  | vec (s : Nat) (l : List T) (h : l.length ≤ N) (hs : ∀ e ∈ l, SmallT N e) : SmallT N (.vec s l)
  | vecd (s : Nat) (l : List T) (h : l.length ≤ N) (hs : ∀ e ∈ l, SmallT N e) : SmallT N (.vecd s l)
  | agg (cs : List T) (hs : ∀ e ∈ cs, SmallT N e) : SmallT N (.agg cs)

theorem SmallT.elem {N k : Nat} {cs : List T} (h : ∀ c ∈ cs, SmallT N c) : SmallT N (mkElem k cs) := by
  unfold mkElem
  split
  · exact h _ (by simp)
  · exact .agg _ h

theorem SmallT.cells {N : Nat} {x : T} (h : SmallT N x) : ∀ c ∈ x.cells, SmallT N c := by
  cases h with
  | agg cs hs => exact hs
  | bool b => intro c hc; rw [List.mem_singleton.1 hc]; exact .bool b
  | int k n => intro c hc; rw [List.mem_singleton.1 hc]; exact .int k n
  | str s h => intro c hc; rw [List.mem_singleton.1 hc]; exact .str s h
  | nils => intro c hc; rw [List.mem_singleton.1 hc]; exact .nils
  | vec s l h hs => intro c hc; rw [List.mem_singleton.1 hc]; exact .vec s l h hs
  | vecd s l h hs => intro c hc; rw [List.mem_singleton.1 hc]; exact .vecd s l h hs
section
variable {H : Type} {enc : TypeId × Value → H} {P : Program} {w : World} {sp : Nat → Bool} {held : Bool} {N : Nat}

end
end Go.Proofs.YthpkehhghcpolaaDoor
