/-
  The ground of the walks of this seat, part Fg.
-/
import Derived.Test.YtcogcbplmkcojaaGreatDoorFb
import Derived.Test.YtcogcbplmkcojaaGreatDoorRows
namespace Go.Proofs.YtcogcbplmkcojaaGreatDoor
open Go.RowKit
set_option linter.unusedVariables false
inductive bu : T → T → Prop
 | refl (x : T) : bu x x
 | av (s : Nat) : bu .av (.κ s [])
 | vec (s : Nat) (l : List T) : bu (.vec s l) (.κ s l)
 | agg (cs ds : List T) (hl : cs.length = ds.length) (h : ∀ (i : Nat) c d, cs[i]? = some c → ds[i]? = some d → bu c d) : bu (.agg cs) (.agg ds)
 | cO (cs ds : List T) (hl : cs.length = ds.length) (h : ∀ (i : Nat) c d, cs[i]? = some c → ds[i]? = some d → bu c d) : bu (.cO cs) (.cO ds)
 | deep (s : Nat) (l m : List T) (hl : l.length = m.length) (hc : ∀ (i : Nat) e e', l[i]? = some e → m[i]? = some e' → e.cells.length = e'.cells.length)
  (h : ∀ (i : Nat) e e' (j : Nat) c d, l[i]? = some e → m[i]? = some e' → e.cells[j]? = some c → e'.cells[j]? = some d → bu c d) : bu (.vec s l) (.vec s m)
 | DU (s : Nat) (l m : List T) (hl : l.length = m.length) (hc : ∀ (i : Nat) e e', l[i]? = some e → m[i]? = some e' → e.cells.length = e'.cells.length)
  (h : ∀ (i : Nat) e e' (j : Nat) c d, l[i]? = some e → m[i]? = some e' → e.cells[j]? = some c → e'.cells[j]? = some d → bu c d) : bu (.κ s l) (.κ s m)
 | fn (f : Fn) (a b a' b' : List T) (ha : a.length = a'.length) (hb : b.length = b'.length) (h : ∀ (i : Nat) c d, a[i]? = some c → a'[i]? = some d → bu c d) (k : ∀ (i : Nat) c d, b[i]? = some c → b'[i]? = some d → bu c d) : bu (.fn f a b) (.fn f a' b')
 | bY (t : TypeId) (x y : T) (h : bu x y) : bu (.bY t x) (.bY t y)
 | trans (x y z : T) (h : bu x y) (k : bu y z) : bu x z
theorem bu.of_eq {x y : T} (h : x = y) : bu x y := h ▸ .refl x
theorem bu.one {x y : T} (h : bu x y) : x.one = y.one := by
 induction h with
 | trans _ _ _ _ _ a b => exact a.trans b
 | _ => rfl
theorem bu.cells {x y : T} (h : bu x y) : x.cells.length = y.cells.length ∧ ∀ (j : Nat) c d, x.cells[j]? = some c → y.cells[j]? = some d → bu c d := by
 have one : ∀ {x y : T}, x.cells = [x] → y.cells = [y] → bu x y → x.cells.length = y.cells.length ∧ ∀ (j : Nat) c d, x.cells[j]? = some c → y.cells[j]? = some d → bu c d := by
  intro x y hx hy h
  rw [hx, hy]
  refine ⟨rfl, fun j c d hc hd => ?_⟩
  cases j with
  | zero => simp at hc hd; subst hc hd; exact h
  | succ j => simp at hc
 induction h with
 | refl x => exact ⟨rfl, fun j c d hc hd => by rw [hc] at hd; cases hd; exact .refl c⟩
 | av s => exact one rfl rfl (.av s)
 | vec s l => exact one rfl rfl (.vec s l)
 | agg cs ds hl h _ => exact ⟨hl, h⟩
 | cO cs ds hl h _ => exact one rfl rfl (.cO cs ds hl h)
 | deep s l m hl hc h _ => exact one rfl rfl (.deep s l m hl hc h)
 | DU s l m hl hc h _ => exact one rfl rfl (.DU s l m hl hc h)
 | fn f a b a' b' ha hb h k _ _ => exact one rfl rfl (.fn f a b a' b' ha hb h k)
 | bY t x y h _ => exact one rfl rfl (.bY t x y h)
 | trans x y z h k ih ik =>
  refine ⟨ih.1.trans ik.1, fun j c d hc hd => ?_⟩
  have hj : j < y.cells.length := by rw [← ih.1]; exact ι hc
  exact .trans _ _ _ (ih.2 j _ _ hc (List.getElem?_eq_getElem hj)) (ik.2 j _ _ (List.getElem?_eq_getElem hj) hd)
theorem dy {α β : Type} {l : List α} {m : List β} (hl : l.length = m.length) {i : Nat} {b : β} (h : m[i]? = some b) : ∃ a, l[i]? = some a :=
 ⟨l[i]'(by rw [hl]; exact ι h), List.getElem?_eq_getElem _⟩
theorem RT.sub {w : World} {M : Nat → Prop} {x y : T} (h : bu x y) : ∀ {v : Value}, RT w M x v → RT w M y v := by
 have deep : ∀ {s : Nat} {l m : List T} {v : Value}, l.length = m.length → (∀ (i : Nat) e e', l[i]? = some e → m[i]? = some e' → e.cells.length = e'.cells.length) →
  (∀ (i : Nat) e e' (j : Nat) c d, l[i]? = some e → m[i]? = some e' → e.cells[j]? = some c → e'.cells[j]? = some d → bu c d ∧ ∀ {v : Value}, RT w M c v → RT w M d v) → RT w M (.vec s l) v → RT w M (.vec s m) v := by
  intro s l m v hl cm h hr
  cases hr with | vec _ _ b off cap sp vals hM ej iI hs hc nB =>
  have aw : m ≠ [] → l ≠ [] := fun h e => h (List.eq_nil_of_length_eq_zero (by rw [← hl, e]; rfl))
  rw [hl] at ej
  have cell : ∀ (i : Nat) e' (j : Nat) d, m[i]? = some e' → e'.cells[j]? = some d → ∃ e c, l[i]? = some e ∧ e.cells[j]? = some c := fun i e' j d hi hj => by
   obtain ⟨e, he⟩ := dy hl hi
   obtain ⟨c, hc⟩ := dy (cm i e e' he hi) hj
   exact ⟨e, c, he, hc⟩
  have := RT.vec (w := w) (M := M) s m b off cap sp vals (fun a => hM (aw a)) ej (fun a => iI (aw a)) (fun i e' hi => by
   obtain ⟨e, he⟩ := dy hl hi
   rw [← cm i e e' he hi]; exact hs i e he)
   (fun i e' j d hi hj => by
    obtain ⟨e, c, he, jj⟩ := cell i e' j d hi hj
    obtain ⟨h1, h2⟩ := hc i e j c he jj
    exact ⟨h1, by rw [← (h i e e' j c d he hi jj hj).1.one]; exact h2⟩)
   (fun i e' j d hi hj => by
    obtain ⟨e, c, he, jj⟩ := cell i e' j d hi hj
    exact (h i e e' j c d he hi jj hj).2 (nB i e j c he jj))
  rw [← hl] at this
  exact this
 induction h with
 | refl x => exact id
 | av s => intro v hr; cases hr; exact .kA s
 | vec s l => intro v hr; exact .κ s l v hr
 | agg cs ds hl h ih =>
  intro v hr
  cases hr with | agg _ vs gZ h1 nB =>
  refine .agg ds vs (by omega) (fun i d hi => ?_) (fun i d v hi hv => ?_)
  ·obtain ⟨c, hc⟩ := dy hl hi
   rw [← (h i c d hc hi).one]; exact h1 i c hc
  ·obtain ⟨c, hc⟩ := dy hl hi
   exact ih i c d hc hi (nB i c v hc hv)
 | cO cs ds hl h ih =>
  intro v hr
  cases hr with | cO _ b off vals hM hc nB =>
  refine .cO ds b off vals (fun aw => hM fun e => aw (List.eq_nil_of_length_eq_zero (by rw [← hl, e]; rfl))) (fun i d hi => ?_) (fun i d hi => ?_)
  ·obtain ⟨c, jj⟩ := dy hl hi
   obtain ⟨h1, h2⟩ := hc i c jj
   exact ⟨h1, by rw [← (h i c d jj hi).one]; exact h2⟩
  ·obtain ⟨c, jj⟩ := dy hl hi
   exact ih i c d jj hi (nB i c jj)
 | deep s l m hl hc h ih => intro v hr; exact deep hl hc (fun i e e' j c d a b e1 e2 => ⟨h i e e' j c d a b e1 e2, ih i e e' j c d a b e1 e2⟩) hr
 | DU s l m hl hc h ih =>
  intro v hr
  rcases ri hr with ⟨h0, rfl⟩ | hr
  ·obtain rfl : m = [] := List.eq_nil_of_length_eq_zero (by rw [← hl, h0]; rfl)
   exact .kA s
  ·exact .κ _ _ _ (deep hl hc (fun i e e' j c d a b e1 e2 => ⟨h i e e' j c d a b e1 e2, ih i e e' j c d a b e1 e2⟩) hr)
 | fn f a b a' b' ha hb h k ih ik =>
  intro v hr
  cases hr with | fn _ _ _ p q h1 h2 h3 h4 =>
  refine .fn f a' b' p q (by omega) (by omega) (fun i d v hi hv => ?_) (fun i d v hi hv => ?_)
  ·obtain ⟨c, hc⟩ := dy ha hi
   exact ih i c d hc hi (h3 i c v hc hv)
  ·obtain ⟨c, hc⟩ := dy hb hi
   exact ik i c d hc hi (h4 i c v hc hv)
 | bY t x y h ih =>
  intro v hr
  cases hr with | bY _ _ v hr => exact .bY t y v (ih hr)
 | trans x y z _ _ ih ik => intro v hr; exact ik (ih hr)
def gg : List T → List T → Prop
 | [], [] => True
 | x :: r, y :: s => bu x y ∧ gg r s
 | _, _ => False
theorem gg.get : ∀ {l m : List T}, gg l m → l.length = m.length ∧ ∀ (i : Nat) c d, l[i]? = some c → m[i]? = some d → bu c d
 | [], [], _ => ⟨rfl, by simp⟩
 | x :: r, y :: s, h => by
  obtain ⟨h1, h2⟩ := gg.get h.2
  refine ⟨by simp [h1], fun i c d hc hd => ?_⟩
  cases i with
  | zero => simp at hc hd; subst hc hd; exact h.1
  | succ i => simp at hc hd; exact h2 i c d hc hd
 | [], _ :: _, h => h.elim
 | _ :: _, [], h => h.elim
theorem gg.refl : ∀ (l : List T), gg l l
 | [] => trivial
 | x :: r => ⟨.refl x, gg.refl r⟩
theorem bu.ze (s : Nat) {l m : List T} (hl : l.length = m.length) (h : ∀ (i : Nat) e e', l[i]? = some e → m[i]? = some e' → bu e e') : bu (.vec s l) (.vec s m) :=
 .deep s l m hl (fun i e e' a b => (h i e e' a b).cells.1) (fun i e e' j c d a b e1 e2 => (h i e e' a b).cells.2 j c d e1 e2)
theorem bu.Qs {l m : List T} (h : gg l m) : bu (.agg l) (.agg m) := .agg _ _ h.get.1 h.get.2
theorem φ.sub {P : Program} {f : FuncId} {ts kY : List T} {r : AV} (h : φ P f kY r) (hs : gg ts kY) : φ P f ts r := by
 obtain ⟨hl, hg⟩ := hs.get
 refine ⟨h.1, fun n F w vs hF bH hr => h.2 n F w vs hF (by omega) fun i t v hi hv => ?_⟩
 obtain ⟨c, hc⟩ := dy hl hi
 exact RT.sub (hg i c t hc hi) (hr i c v hc hv)
mutual
def nr : Nat → AH → AV → Option (T × List Nat)
 | 0, _, _ => none
 | k + 1, H, v =>
  match v with
  | .t x => some (x, [])
  | .sl b g i m =>
   match H[b]? with
   | some (.arr _ s z gen l) =>
    match Nat.beq g gen with
    | true => match z with
     | true => match l.part i m with
      | .ts q => some (.κ s q, [b])
      | .vs q => match fG k H q with | some (q, ids) => some (.κ s q, b :: ids) | none => none
     | false => match l.part i m with
      | .ts q => some (.vec s q, [b])
      | .vs q => match fG k H q with | some (q, ids) => some (.vec s q, b :: ids) | none => none
    | false => none
   | _ => none
  | .dc => some (.vec 0 [], [])
  | .ptr b _ _ o =>
   match H[b]? with
   | some (.box cells) => match fG k H (cells.drop o) with | some (l, ids) => some (.cO l, b :: ids) | none => none
   | _ => none
  | .agg cs => match cs.all AV.one, fG k H cs with | true, some (l, ids) => some (.agg l, ids) | _, _ => none
  | .fn f a b => match fG k H a, fG k H b with | some (x, i), some (y, j) => some (.fn f x y, i ++ j) | _, _ => none
  | .bY t v => match nr k H v with | some (x, i) => some (.bY t x, i) | none => none
  | _ => none
def fG : Nat → AH → List AV → Option (List T × List Nat)
 | 0, _, _ => none
 | _ + 1, _, [] => some ([], [])
 | k + 1, H, v :: r => match nr k H v, fG k H r with | some (x, i), some (l, j) => some (x :: l, i ++ j) | _, _ => none
end
theorem gL (H : AH) : ∀ (k : Nat), (∀ v x' pd, nr k H v = some (x', pd) → ∃ x ids, dK k H v = some (x, ids) ∧ (∀ b ∈ ids, b ∈ pd) ∧ bu x x') ∧
 (∀ v x' pd, fG k H v = some (x', pd) → ∃ x ids, gv k H v = some (x, ids) ∧ (∀ b ∈ ids, b ∈ pd) ∧ gg x x')
 | 0 => ⟨fun v x' pd h => by simp [nr] at h, fun v x' pd h => by simp [fG] at h⟩
 | k + 1 => by
  obtain ⟨O4, Ci⟩ := gL H k
  constructor
  ·intro v x' pd h
   simp only [nr] at h
   split at h
   ·cases h; exact ⟨_, _, by simp only [dK], fun _ h => h, .refl _⟩
   ·rename_i b g i m
    cases hb : H[b]? with
    | none => rw [hb] at h; cases h
    | some ν =>
     rw [hb] at h
     cases ν with
     | dead => cases h
     | box => cases h
     | iter => cases h
     | arr e s z gen l =>
      simp only at h
      split at h
      ·rename_i hg
       have row : ∀ {mk : Nat → List T → T} (ph : ∀ {l m : List T}, gg l m → bu (.vec s l) (mk s m)), (match l.part i m with
        | .ts q => some (mk s q, [b])
        | .vs q => match fG k H q with | some (q, ids) => some (mk s q, b :: ids) | none => none) = some (x', pd) →
        ∃ q q' ids, (match l.part i m with
         | .ts q => some (T.vec s q, [b])
         | .vs q => match gv k H q with | some (q, ids) => some (T.vec s q, b :: ids) | none => none) = some (T.vec s q, ids) ∧ (∀ b ∈ ids, b ∈ pd) ∧ x' = mk s q' ∧ gg q q' ∧ q'.length = (l.part i m).length := by
        intro mk ph h
        split at h
        ·rename_i q hq
         cases h
         rw [hq]
         exact ⟨q, q, _, rfl, fun _ h => h, rfl, gg.refl q, rfl⟩
        ·rename_i q hq
         rw [hq]
         split at h
         ·rename_i q' js hl
          cases h
          obtain ⟨x, ids, h1, h2, h3⟩ := Ci _ _ _ hl
          refine ⟨x, q', b :: ids, by simp only [h1], fun c hc => ?_, rfl, h3, ?_⟩
          ·simp only [List.mem_cons] at hc ⊢
           exact hc.imp id (h2 c)
          ·rw [← h3.get.1]; exact (nq k h1).1
         ·cases h
       split at h
       · -- it may be nil
        obtain ⟨q, q', ids, h1, h2, rfl, h3, h4⟩ := row (mk := .κ) (fun {a c} hh => .trans _ _ _ (.ze s hh.get.1 hh.get.2) (.vec s c)) h
        by_cases h0 : l.length = 0
        ·have AE : q' = [] := List.eq_nil_of_length_eq_zero (by rw [h4, Sq.jo]; omega)
         subst AE
         refine ⟨.av, [], ?_, by simp, .av s⟩
         simp only [dK, hb, hg, h0]
         rfl
        ·refine ⟨.vec s q, ids, ?_, h2, .trans _ _ _ (.ze s h3.get.1 h3.get.2) (.vec s q')⟩
         have hn : (true && Nat.beq l.length 0) = false := by
          cases hh : Nat.beq l.length 0 with
          | false => rfl
          | true => exact (h0 (Nat.eq_of_beq_eq_true hh)).elim
         simp only [dK, hb, hg, hn]
         exact h1
       ·obtain ⟨q, q', ids, h1, h2, rfl, h3, h4⟩ := row (mk := .vec) (fun {a c} hh => .ze s hh.get.1 hh.get.2) h
        refine ⟨.vec s q, ids, ?_, h2, .ze s h3.get.1 h3.get.2⟩
        simp only [dK, hb, hg, Bool.false_and]
        exact h1
      ·cases h
   ·cases h; exact ⟨_, _, by simp only [dK], fun _ h => h, .refl _⟩
   ·rename_i b g i o
    cases hb : H[b]? with
    | none => rw [hb] at h; cases h
    | some ν =>
     rw [hb] at h
     cases ν with
     | dead => cases h
     | arr => cases h
     | iter => cases h
     | box cells =>
      simp only at h
      split at h
      ·rename_i l ids hl
       cases h
       obtain ⟨x, js, h1, h2, h3⟩ := Ci _ _ _ hl
       refine ⟨.cO x, b :: js, by simp only [dK, hb, h1], fun c hc => ?_, .cO _ _ h3.get.1 h3.get.2⟩
       simp only [List.mem_cons] at hc ⊢
       exact hc.imp id (h2 c)
      ·cases h
   ·rename_i cs
    split at h
    ·rename_i l ids ho hl
     cases h
     obtain ⟨x, js, h1, h2, h3⟩ := Ci _ _ _ hl
     exact ⟨.agg x, js, by simp only [dK, ho, h1], h2, .Qs h3⟩
    ·cases h
   ·rename_i f a b
    split at h
    ·rename_i x i y j hx hy
     cases h
     obtain ⟨x1, i1, h1, h2, h3⟩ := Ci _ _ _ hx
     obtain ⟨y1, j1, k1, k2, k3⟩ := Ci _ _ _ hy
     refine ⟨.fn f x1 y1, i1 ++ j1, by simp only [dK, h1, k1], fun c hc => ?_, .fn f _ _ _ _ h3.get.1 k3.get.1 h3.get.2 k3.get.2⟩
     simp only [List.mem_append] at hc ⊢
     exact hc.imp (h2 c) (k2 c)
    ·cases h
   ·rename_i t v
    split at h
    ·rename_i x i hx
     cases h
     obtain ⟨x1, i1, h1, h2, h3⟩ := O4 _ _ _ hx
     exact ⟨.bY t x1, i1, by simp only [dK, h1], h2, .bY t _ _ h3⟩
    ·cases h
   ·cases h
  ·intro v x' pd h
   cases v with
   | nil => simp only [fG] at h; cases h; exact ⟨[], [], by simp only [gv], by simp, trivial⟩
   | cons a r =>
    simp only [fG] at h
    split at h
    ·rename_i x i l j hx hl
     cases h
     obtain ⟨x1, i1, h1, h2, h3⟩ := O4 _ _ _ hx
     obtain ⟨l1, j1, k1, k2, k3⟩ := Ci _ _ _ hl
     refine ⟨x1 :: l1, i1 ++ j1, by simp only [gv, h1, k1], fun c hc => ?_, h3, k3⟩
     simp only [List.mem_append] at hc ⊢
     exact hc.imp (h2 c) (k2 c)
    ·cases h
theorem gg.trans : ∀ {a b c : List T}, gg a b → gg b c → gg a c
 | [], [], [], _, _ => trivial
 | x :: r, y :: s, z :: t, h, k => ⟨.trans _ _ _ h.1 k.1, gg.trans h.2 k.2⟩
 | [], [], _ :: _, _, k => k.elim
 | [], _ :: _, _, h, _ => h.elim
 | _ :: _, [], _, h, _ => h.elim
 | _ :: _, _ :: _, [], _, k => k.elim
theorem γ.bU {P : Program} {f : FuncId} {args : List AV} {kY ts : List T} {ids : List Nat} {r : AV} {H : AH} {Q : AV → AH → Prop} (h : φ P f ts r) (ha : fG 32 H args = some (kY, ids)) (hs : gg kY ts) (hf : Flat r)
 (k : Q (imp H.length r).1 (H ++ (imp H.length r).2)) : γ P f args H Q := by
 obtain ⟨x, js, h1, _, h3⟩ := (gL H 32).2 _ _ _ ha
 exact γ.C1 (h.sub (h3.trans hs)) (by simp only [DZ, h1, Option.map_some]) hf k
theorem γ.b9 {P : Program} {f : FuncId} {args : List AV} {kY ts : List T} {ids : List Nat} {r : AV} {H : AH} {Q : AV → AH → Prop} (h : φ P f ts r) (ha : fG 32 H args = some (kY, ids)) (vh : gg kY ts)
 (k : Q (imp H.length r).1 (dY ids H ++ (imp H.length r).2)) : γ P f args H Q := by
 obtain ⟨x, js, h1, Gl, h3⟩ := (gL H 32).2 _ _ _ ha
 have h := h.sub (h3.trans vh)
 intro B c w vs hs hl hr
 obtain ⟨ev, aF⟩ := pY ids hs
 obtain ⟨hlen, iu⟩ := mn hs (M' := c.M (dY ids H)) (fun cb hm => by
  rcases hm with hm | ⟨b, ν, hb, gZ, hg⟩
  ·exact .inl hm
  ·rcases gR ids hb with rfl | ⟨_, hb⟩
   ·simp [Ψ.live] at gZ
   ·exact .inr ⟨b, ν, hb, gZ, hg⟩) 32 h1 (vs := vs.toList) (by simpa using hl.symm) (fun i x v hi hv => hr i x v hi (by simpa using hv))
  (fun b hb cb hg hm => by
   rcases hm with hm | ⟨b2, ν, iz, gZ, kg⟩
   ·exact ((hs.fb cb hm).2 b hg).elim
   ·have := hs.inj b b2 cb hg kg
    subst this
    rcases gR ids iz with rfl | ⟨hn, _⟩
    ·simp [Ψ.live] at gZ
    ·exact hn (Gl b hb))
 have pe : ic (x.map .t) = some x := by
  clear iu hlen ha h h1 h3
  induction x with
  | nil => rfl
  | cons x r ih => simp only [List.map_cons, ic, xe, ih]
 have key := γ.pure (H := dY ids H) (Q := Q) h pe (by rw [rP]; exact k) B c w vs aF (by rw [List.length_map]; omega) (ov fun i x v hi hv => iu i x v hi (by simpa using hv))
 refine key.mono ?_
 rintro e w' ⟨v, c', r', H', he, h1, h2, h3, h4, h5⟩
 exact ⟨v, c', r', H', he, h1, h2, ev.trans h3, h4, h5⟩
end Go.Proofs.YtcogcbplmkcojaaGreatDoor
namespace Go.Proofs.YtcogcbplmkcojaaGreatDoor
open Go.RowKit
set_option linter.unusedVariables false
inductive et (ids : List Nat) (H H' : AH) : AV → AV → Prop
 | same (x : AV) : et ids H H' x x
 | C1 (x : AV) (t : T) (js : List Nat) (k : Nat) (h : dK k H x = some (t, js)) (hj : ∀ b ∈ js, b ∈ ids) : et ids H H' x (.t t)
 | nil (b e s : Nat) (h : H'[b]? = some (.arr e s true 0 (.ts []))) : et ids H H' (.t .av) (.sl b 0 0 0)
 | sub (x y : T) (h : bu x y) : et ids H H' (.t x) (.t y)
 | ff (x : AV) (t t' : T) (js : List Nat) (k : Nat) (h : nr k H x = some (t, js)) (hs : bu t t') (hj : ∀ b ∈ js, b ∈ ids) : et ids H H' x (.t t')
 | agg (cs jC : List AV) (hl : jC.length = cs.length) (h : ∀ (i : Nat) x x', cs[i]? = some x → jC[i]? = some x' → et ids H H' x x') : et ids H H' (.agg cs) (.agg jC)
 | ao (cs jC : List AV) (hl : jC.length = cs.length) (h : ∀ (i : Nat) x x', cs[i]? = some x → jC[i]? = some x' → et ids H H' x x') : et ids H H' (.ao cs) (.ao jC)
inductive sd (ids : List Nat) (H H' : AH) : Ψ → Ψ → Prop
 | same (b : Ψ) : sd ids H H' b b
 | box (cs jC : List AV) (hl : jC.length = cs.length) (h : ∀ (i : Nat) x x', cs[i]? = some x → jC[i]? = some x' → et ids H H' x x') : sd ids H H' (.box cs) (.box jC)
 | arr (e s : Nat) (z : Bool) (g : Nat) (l l' : Sq) (hl : l'.length = l.length)
  (h : ∀ (i : Nat) x', l'.get i = some x' → ∃ x, l.get i = some x ∧ x'.cells.length = x.cells.length ∧ ∀ (j : Nat) y', x'.cells[j]? = some y' → ∃ y, x.cells[j]? = some y ∧ et ids H H' y y') : sd ids H H' (.arr e s z g l) (.arr e s z g l')
theorem AY {w : World} {c : Cx} {H H' : AH} {B : Nat} (ids : List Nat) (hs : HS w c H B) (hlen : H'.length = H.length)
 (lP : ∀ (b : Nat) az, H'[b]? = some az → az = .dead ∨ (b ∉ ids ∧ ∃ ν, H[b]? = some ν ∧ sd ids H H' ν az)) :
 Ev w c H w c H' ∧ HS w c H' B ∧ ∀ {x x' : AV} {v : Value}, et ids H H' x x' → RA w c H x v → RA w c H' x' v := by
 have back : ∀ (b : Nat) az, H'[b]? = some az → az.live = true → b ∉ ids ∧ ∃ ν, H[b]? = some ν ∧ ν.live = true ∧ sd ids H H' ν az := fun b az hb hl => by
  rcases lP b az hb with rfl | ⟨h1, ν, h2, h3⟩
  ·cases hl
  ·refine ⟨h1, ν, h2, ?_, h3⟩
   cases h3 with
   | same => exact hl
   | box => rfl
   | arr => rfl
 have tp : ∀ cb, c.M H' cb → c.M H cb := fun cb hm => by
  rcases hm with hm | ⟨b, az, hb, gZ, hg⟩
  ·exact .inl hm
  ·obtain ⟨_, ν, h2, h3, _⟩ := back b az hb gZ
   exact .inr ⟨b, ν, h2, h3, hg⟩
 have RP : ∀ cb, c.O H' cb → c.O H cb := fun cb ⟨b, az, hb, gZ, hg⟩ => by
  obtain ⟨_, ν, h2, h3, _⟩ := back b az hb gZ
  exact ⟨b, ν, h2, h3, hg⟩
 have nE : ∀ b ∈ ids, ∀ cb, c.G b = some cb → ¬ c.M H' cb := fun b hb cb hg hm => by
  rcases hm with hm | ⟨b2, az, iz, gZ, kg⟩
  ·exact ((hs.fb cb hm).2 b hg).elim
  ·have := hs.inj b b2 cb hg kg
   subst this
   exact (back b az iz gZ).1 hb
 have ev : Ev w c H w c H' := by
  refine ⟨rfl, Nat.le_refl _, fun b ν hb => ?_, fun cb hm => .inl (RP cb hm), fun _ _ _ => rfl, fun _ _ _ _ h => h⟩
  have χ : b < H'.length := by rw [hlen]; exact ι hb
  have iy := List.getElem?_eq_getElem χ
  generalize H'[b] = az at iy
  refine ⟨az, iy, ?_⟩
  rcases lP b _ iy with h | ⟨_, JN, h2, h3⟩
  ·rw [h]; cases ν <;> trivial
  ·rw [hb] at h2; cases h2
   cases h3 with
   | same =>
    cases ν with
    | dead => trivial
    | box cs => exact ⟨rfl, fun _ h => h⟩
    | iter s p => exact ⟨rfl, fun _ h => h⟩
    | arr => exact ⟨rfl, rfl, rfl, Nat.le_refl _, Nat.le_refl _, fun _ => ⟨rfl, fun cb hc => ⟨hc, rfl⟩⟩⟩
   | box cs jC hl h => exact ⟨hl.symm, fun _ h => h⟩
   | arr e s z g l l' hl h => exact ⟨rfl, rfl, rfl, by rw [hl]; exact Nat.le_refl _, Nat.le_refl _, fun _ => ⟨hl, fun cb hc => ⟨hc, rfl⟩⟩⟩
 have one : ∀ {x x' : AV}, et ids H H' x x' → x.one = true → x'.one = true := fun {x x'} hf h1 => by
  cases hf with
  | same => exact h1
  | C1 _ t js k h hj => exact pI k h h1
  | nil => rfl
  | sub x y h => exact (show y.one = true from h.one ▸ (show x.one = true from h1))
  | ff _ t t' js k h MK hj =>
   obtain ⟨x2, i1, h2, _, h3⟩ := (gL H k).1 _ _ _ h
   have := pI k h2 h1
   rw [h3.one, MK.one] at this
   exact this
  | agg => cases h1
  | ao => cases h1
 have ra : ∀ {x x' : AV} {v : Value}, et ids H H' x x' → RA w c H x v → RA w c H' x' v := fun {x x' v} hf hr => by
  induction hf generalizing v with
  | same => exact hr.ev ev
  | C1 _ t js k h hj => exact .t _ _ (rm hs tp k h hr fun b hb => nE b (hj b hb))
  | nil b e s h =>
   cases hr with | t _ _ hr =>
   cases hr
   exact .sl b 0 0 0 _ _ h ⟨Nat.le_refl _, fun _ => ⟨Nat.le_refl _, .inl ⟨rfl, rfl, rfl⟩⟩⟩
  | sub x y h =>
   cases hr with | t _ _ hr => exact (RA.t _ _ (RT.sub h hr)).ev ev
  | ff _ t t' js k h MK hj =>
   obtain ⟨x1, i1, h1, h2, h3⟩ := (gL H k).1 _ _ _ h
   exact .t _ _ (RT.sub (.trans _ _ _ h3 MK) (rm hs tp k h1 hr fun b hb => nE b (hj b (h2 b hb))))
  | agg cs jC hl h ih =>
   cases hr with | agg _ vs h0 h1 h2 =>
   refine .agg _ _ (by omega) (fun i x' hi => ?_) (fun i x' u hi hu => ?_)
   ·have χ : i < cs.length := by have := ι hi; omega
    exact one (h i _ x' (List.getElem?_eq_getElem χ) hi) (h1 i _ (List.getElem?_eq_getElem χ))
   ·have χ : i < cs.length := by have := ι hi; omega
    exact ih i _ x' (List.getElem?_eq_getElem χ) hi (h2 i _ u (List.getElem?_eq_getElem χ) hu)
  | ao cs jC hl h ih =>
   cases hr with | ao _ vs h0 h2 =>
   refine .ao _ _ (by omega) (fun i x' u hi hu => ?_)
   have χ : i < cs.length := by have := ι hi; omega
   exact ih i _ x' (List.getElem?_eq_getElem χ) hi (h2 i _ u (List.getElem?_eq_getElem χ) hu)
 refine ⟨ev, hs.aM ev hs.inj hs.base (fun b cb h => by rw [hlen]; exact hs.jB b cb h) (fun b cb cells hb hg => ?_) (fun b cb e s z g l hb hg => ?_) (fun b cb s p hb hg => ?_), ra⟩
 ·obtain ⟨_, ν, h2, _, h3⟩ := back b _ hb rfl
  cases h3 with
  | same => exact .inl ⟨h2, hg, rfl⟩
  | box cs jC hl h =>
   obtain ⟨arr, e, a1, a2, a3⟩ := hs.box b cb cs h2 hg
   refine .inr ⟨arr, e, a1, by omega, fun j x v hj hv => ?_⟩
   have fy : j < cs.length := by have := ι hj; omega
   have hx := List.getElem?_eq_getElem fy
   obtain ⟨b1, b2, b3⟩ := a3 j _ v hx hv
   exact ⟨one (h j _ x hx hj) b1, ra (h j _ x hx hj) b2, b3⟩
 ·obtain ⟨_, ν, h2, _, h3⟩ := back b _ hb rfl
  cases h3 with
  | same => exact .inl ⟨h2, hg, rfl⟩
  | arr e s z g l0 l' hl h =>
   obtain ⟨arr, cap, a1, a2, a3, a4, a5⟩ := hs.arr b cb e s z g l0 h2 hg
   refine .inr ⟨arr, cap, a1, a2, by rw [hl]; exact a3, a4, fun i x' hi => ?_⟩
   obtain ⟨x, hx, cm, hy⟩ := h i x' hi
   obtain ⟨c1, c2⟩ := a5 i x hx
   refine ⟨by omega, fun j y' hj => ?_⟩
   obtain ⟨y, qJ, O6⟩ := hy j y' hj
   obtain ⟨v, d1, d2, d3, d4⟩ := c2 j y qJ
   exact ⟨v, d1, one O6 d2, ra O6 d3, d4⟩
 ·obtain ⟨_, ν, h2, _, h3⟩ := back b _ hb rfl
  cases h3 with
  | same => exact .inl ⟨h2, hg, rfl⟩
theorem kN {k0 : Nat} {s s' : St} (ids : List Nat) (hlen : s'.H.length = s.H.length)
 (lP : ∀ (b : Nat) az, s'.H[b]? = some az → az = .dead ∨ (b ∉ ids ∧ ∃ ν, s.H[b]? = some ν ∧ sd ids s.H s'.H ν az))
 (Qd : ∀ t, lk s'.env t = .bj ∨ et ids s.H s'.H (lk s.env t) (lk s'.env t)) : aX k0 s s' := by
 intro O c a w _ hs
 obtain ⟨ev, aF, ra⟩ := AY ids hs.hs hlen lP
 refine ⟨c, fun t => ?_, aF, hs.size, hs.defers, hs.ev.trans ev, hs.below⟩
 rcases Qd t with e | e
 ·rw [e]; exact .bj _
 ·exact ra e (hs.env t)
theorem Jo {ids : List Nat} {H H' : AH} (e s : Nat) (z : Bool) (g : Nat) (A : List T) (cs : List AV) (ts : List T) (hl : ts.length = cs.length) (h : ∀ (j : Nat) y t, cs[j]? = some y → ts[j]? = some t → et ids H H' y (.t t)) :
 sd ids H H' (.arr e s z g (.vs (A.map .t ++ [.agg cs]))) (.arr e s z g (.ts (A ++ [.agg ts]))) := by
 refine .arr e s z g _ _ (by simp [Sq.length]) fun i x' hi => ?_
 simp only [Sq.get, Option.map_eq_some_iff] at hi ⊢
 obtain ⟨t, hi, rfl⟩ := hi
 by_cases χ : i < A.length
 ·rw [List.getElem?_append_left χ] at hi
  refine ⟨.t t, by rw [List.getElem?_append_left (by simpa using χ)]; simp [hi], rfl, fun j y' hj => ⟨y', hj, .same _⟩⟩
 ·rw [List.getElem?_append_right (by omega)] at hi
  have tg : i - A.length = 0 := by have := ι hi; simp at this; omega
  rw [tg] at hi
  simp at hi
  subst hi
  refine ⟨.agg cs, by rw [List.getElem?_append_right (by simp; omega)]; simp [tg], by simp [AV.cells, hl], fun j y' hj => ?_⟩
  simp only [AV.cells, List.getElem?_map, Option.map_eq_some_iff] at hj
  obtain ⟨t, ht, rfl⟩ := hj
  have fy : j < cs.length := by have := ι ht; omega
  exact ⟨cs[j], List.getElem?_eq_getElem fy, h j _ t (List.getElem?_eq_getElem fy) ht⟩
theorem HX {k0 : Nat} {env : List (Nat × AV)} {H : AH} (ν : Ψ) : aX k0 ⟨env, H⟩ ⟨env, H ++ [ν]⟩ := by
 intro O c a w _ hs
 obtain ⟨ev, aF⟩ := oU hs.hs ν
 exact ⟨c, fun t => (hs.env t).ev ev, aF, hs.size, hs.defers, hs.ev.trans ev, hs.below⟩
end Go.Proofs.YtcogcbplmkcojaaGreatDoor
namespace Go.Proofs.YtcogcbplmkcojaaGreatDoor
open Go.RowKit
set_option linter.unusedVariables false
set_option linter.unusedSimpArgs false
structure ja (l m : List T) : Prop where
 hl : l.length = m.length
 hc : ∀ (i : Nat) e e', l[i]? = some e → m[i]? = some e' → e.cells.length = e'.cells.length
 h : ∀ (i : Nat) e e' (j : Nat) c d, l[i]? = some e → m[i]? = some e' → e.cells[j]? = some c → e'.cells[j]? = some d → bu c d
theorem ja.refl (l : List T) : ja l l := ⟨rfl, fun i e e' a b => by rw [a] at b; cases b; rfl, fun i e e' j c d a b e1 e2 => by rw [a] at b; cases b; rw [e1] at e2; cases e2; exact .refl c⟩
theorem ja.of_eq {l m : List T} (h : l = m) : ja l m := h ▸ .refl l
theorem ja.FF {l m : List T} (hl : l.length = m.length) (h : ∀ (i : Nat) e e', l[i]? = some e → m[i]? = some e' → bu e e') : ja l m :=
 ⟨hl, fun i e e' a b => (h i e e' a b).cells.1, fun i e e' j c d a b e1 e2 => (h i e e' a b).cells.2 j c d e1 e2⟩
theorem ja.map {α : Type} {f g : α → T} (h : ∀ a, bu (f a) (g a)) (l : List α) : ja (l.map f) (l.map g) :=
 .FF (by simp) fun i e e' a b => by
  simp only [List.getElem?_map, Option.map_eq_some_iff] at a b
  obtain ⟨x, hx, rfl⟩ := a
  obtain ⟨y, hy, rfl⟩ := b
  rw [hx] at hy; cases hy
  exact h x
theorem ja.append {a b c d : List T} (h : ja a c) (k : ja b d) : ja (a ++ b) (c ++ d) := by
 have key : ∀ (i : Nat) e e', (a ++ b)[i]? = some e → (c ++ d)[i]? = some e' → (∃ i : Nat, a[i]? = some e ∧ c[i]? = some e') ∨ ∃ i : Nat, b[i]? = some e ∧ d[i]? = some e' := by
  intro i e e' h1 h2
  by_cases χ : i < a.length
  ·rw [List.getElem?_append_left χ] at h1
   rw [List.getElem?_append_left (by rw [← h.hl]; exact χ)] at h2
   exact .inl ⟨i, h1, h2⟩
  ·rw [List.getElem?_append_right (by omega)] at h1
   rw [List.getElem?_append_right (by rw [← h.hl]; omega), ← h.hl] at h2
   exact .inr ⟨_, h1, h2⟩
 refine ⟨by simp [h.hl, k.hl], fun i e e' h1 h2 => ?_, fun i e e' j x y h1 h2 h3 h4 => ?_⟩
 ·rcases key i e e' h1 h2 with ⟨i, q1, q2⟩ | ⟨i, q1, q2⟩
  ·exact h.hc i e e' q1 q2
  ·exact k.hc i e e' q1 q2
 ·rcases key i e e' h1 h2 with ⟨i, q1, q2⟩ | ⟨i, q1, q2⟩
  ·exact h.h i e e' j x y q1 q2 h3 h4
  ·exact k.h i e e' j x y q1 q2 h3 h4
theorem ja.PK {ids : List Nat} {H H' : AH} {l m : List T} (h : ja l m) (e s : Nat) (z : Bool) (g : Nat) : sd ids H H' (.arr e s z g (.ts l)) (.arr e s z g (.ts m)) := by
 refine .arr e s z g _ _ h.hl.symm fun i x' hi => ?_
 obtain ⟨e', eJ, rfl⟩ := oK hi
 obtain ⟨x, hx⟩ := dy h.hl eJ
 refine ⟨.t x, by simp [Sq.get, hx], by rw [T.dp, T.dp, List.length_map, List.length_map, h.hc i x e' hx eJ], fun j y' hj => ?_⟩
 rw [T.dp] at hj ⊢
 simp only [List.getElem?_map, Option.map_eq_some_iff] at hj ⊢
 obtain ⟨d, hd, rfl⟩ := hj
 obtain ⟨c, hc⟩ := dy (h.hc i x e' hx eJ) hd
 exact ⟨_, ⟨c, hc, rfl⟩, .sub c d (h.h i x e' j c d hx eJ hc hd)⟩
inductive qd : AV → AV → Prop
 | t (x y : T) (h : bu x y) : qd (.t x) (.t y)
 | own (e s : Nat) (z : Bool) (l m : List T) (h : ja l m) : qd (.own e s z l) (.own e s z m)
def sb : List AV → List AV → Prop
 | [], [] => True
 | x :: r, y :: s => qd x y ∧ sb r s
 | _, _ => False
inductive vu : AV → AV → Prop
 | one (x y : AV) (h : qd x y) : vu x y
 | ao (l m : List AV) (h : sb l m) : vu (.ao l) (.ao m)
def Bw (a b : Ψ) : Prop := ∃ e s z l m, ja l m ∧ a = .arr e s z 0 (.ts l) ∧ b = .arr e s z 0 (.ts m)
theorem vg {x y : AV} (n : Nat) (h : qd x y) : ((∃ a b, bu a b ∧ (ed n x).1 = .t a ∧ (ed n y).1 = .t b) ∨ (ed n x).1 = (ed n y).1) ∧ (ed n x).2.length = (ed n y).2.length ∧ ∀ (i : Nat) a b, (ed n x).2[i]? = some a → (ed n y).2[i]? = some b → Bw a b := by
 cases h with
 | t x y h => exact ⟨.inl ⟨x, y, h, rfl, rfl⟩, rfl, by simp [ed, fS]⟩
 | own e s z l m h =>
  refine ⟨.inr ?_, rfl, fun i a b ha hb => ?_⟩
  ·show AV.sl n 0 0 l.length = .sl n 0 0 m.length
   rw [h.hl]
  ·simp only [ed, fS] at ha hb
   cases i with
   | zero => simp at ha hb; subst ha hb; exact ⟨e, s, z, l, m, h, rfl, rfl⟩
   | succ i => simp at ha
theorem sY : ∀ {l m : List AV} (n : Nat), sb l m → (dg n l).1.length = (dg n m).1.length ∧ (∀ (i : Nat) x y, (dg n l).1[i]? = some x → (dg n m).1[i]? = some y → (∃ a b, bu a b ∧ x = .t a ∧ y = .t b) ∨ x = y) ∧
 (dg n l).2.length = (dg n m).2.length ∧ ∀ (i : Nat) a b, (dg n l).2[i]? = some a → (dg n m).2[i]? = some b → Bw a b
 | [], [], n, _ => ⟨rfl, by simp [dg], rfl, by simp [dg]⟩
 | x :: r, y :: s, n, h => by
  obtain ⟨h1, h2, h3⟩ := vg n h.1
  obtain ⟨k1, k2, k3, k4⟩ := sY (n + (ed n x).2.length) h.2
  simp only [dg, ← h2]
  refine ⟨by simp [k1], fun i a b ha hb => ?_, by simp only [List.length_append, k3]; omega, fun i a b ha hb => ?_⟩
  ·cases i with
   | zero =>
    simp at ha hb; subst ha hb
    rcases h1 with ⟨p, q, e1, e2, e3⟩ | h1
    ·exact .inl ⟨p, q, e1, e2, e3⟩
    ·exact .inr h1
   | succ i => simp at ha hb; exact k2 i a b ha hb
  ·by_cases χ : i < (ed n x).2.length
   ·rw [List.getElem?_append_left χ] at ha
    rw [List.getElem?_append_left (by rw [← h2]; exact χ)] at hb
    exact h3 i a b ha hb
   ·rw [List.getElem?_append_right (by omega)] at ha
    rw [List.getElem?_append_right (by rw [← h2]; omega), ← h2] at hb
    exact k4 _ a b ha hb
 | [], _ :: _, n, h => h.elim
 | _ :: _, [], n, h => h.elim
theorem sb.aL : ∀ {l m : List AV}, sb l m → m.all oS = true
 | [], [], _ => rfl
 | x :: r, y :: s, h => by
  have h1 : oS y = true := by cases h.1 <;> rfl
  simp only [List.all_cons, h1, sb.aL h.2, Bool.and_self]
 | [], _ :: _, h => h.elim
 | _ :: _, [], h => h.elim
theorem B7 {n : Nat} {F : Nat → Prop} {G : Nat → Option Nat} {w : World} {B : Nat} {r0 r : AV} {v : Value} (hs : vu r0 r)
 (h1 : RA w ⟨F, G⟩ (List.replicate n .dead ++ (imp n r0).2) (imp n r0).1 v) (h2 : HS w ⟨F, G⟩ (List.replicate n .dead ++ (imp n r0).2) B) :
 RA w ⟨F, G⟩ (List.replicate n .dead ++ (imp n r).2) (imp n r).1 v ∧ HS w ⟨F, G⟩ (List.replicate n .dead ++ (imp n r).2) B := by
 have JM : (imp n r0).2.length = (imp n r).2.length ∧ ∀ (i : Nat) a b, (imp n r0).2[i]? = some a → (imp n r).2[i]? = some b → Bw a b := by
  cases hs with
  | one _ _ h =>
   have e : ∀ x : AV, qd r0 r → (imp n r0) = ed n r0 ∧ (imp n r) = ed n r := fun _ h => by cases h <;> exact ⟨rfl, rfl⟩
   obtain ⟨e1, e2⟩ := e r h
   rw [e1, e2]
   exact (vg n h).2
  | ao l m h => exact (sY n h).2.2
 obtain ⟨ev, aF, ra⟩ := AY (H' := List.replicate n .dead ++ (imp n r).2) [] h2 (by simp [JM.1]) (fun b az hb => by
  by_cases χ : b < n
  ·exact .inl (LF χ hb)
  ·refine .inr ⟨by simp, ?_⟩
   rw [List.getElem?_append_right (by simp; omega), List.length_replicate] at hb
   obtain ⟨ν, Cn⟩ := dy JM.1 hb
   refine ⟨ν, by rw [List.getElem?_append_right (by simp; omega), List.length_replicate]; exact Cn, ?_⟩
   obtain ⟨e, s, z, l, m, hc, rfl, rfl⟩ := JM.2 _ _ _ Cn hb
   exact hc.PK e s z 0)
 refine ⟨?_, aF⟩
 have one : ∀ {x y : AV} {u : Value}, ((∃ a b, bu a b ∧ x = .t a ∧ y = .t b) ∨ x = y) → RA w ⟨F, G⟩ (List.replicate n .dead ++ (imp n r0).2) x u → RA w ⟨F, G⟩ (List.replicate n .dead ++ (imp n r).2) y u := by
  intro x y u h hr
  rcases h with ⟨a, b, e1, rfl, rfl⟩ | rfl
  ·exact ra (.sub a b e1) hr
  ·exact ra (.same _) hr
 cases hs with
 | one _ _ h =>
  have e : ∀ x : AV, qd r0 r → (imp n r0) = ed n r0 ∧ (imp n r) = ed n r := fun _ h => by cases h <;> exact ⟨rfl, rfl⟩
  obtain ⟨e1, e2⟩ := e r h
  rw [e1] at h1 one
  rw [e2] at one ⊢
  exact one (vg n h).1 h1
 | ao l m h =>
  obtain ⟨k1, k2, _⟩ := sY n h
  cases h1 with | ao _ vs hl hr =>
  refine .ao _ vs (by omega) fun i y u hi hu => ?_
  obtain ⟨x, hx⟩ := dy k1 hi
  exact one (k2 i x y hx hi) (hr i x u hx hu)
theorem vu.aL {r0 r : AV} (hs : vu r0 r) : aL r = true := by
 cases hs with
 | one _ _ h => cases h <;> rfl
 | ao l m h => exact h.aL
def sM (H : AH) : AV → AV → Prop
 | .own e s z l, .sl b g i m => ∃ l0, H[b]? = some (.arr e s z g (.ts l0)) ∧ i = 0 ∧ m = l0.length ∧ ja l0 l
 | .t x, v => ∃ y ids, nr 5000 H v = some (y, ids) ∧ bu y x
 | _, _ => False
def DQ (H : AH) : AV → AV → List Nat
 | .t _, v => match nr 5000 H v with | some (_, ids) => ids | none => []
 | _, _ => []
def z4 (H : AH) : List AV → List AV → Prop
 | [], [] => True
 | r :: rs, v :: vs => sM H r v ∧ z4 H rs vs
 | _, _ => False
def zd (H : AH) : List AV → List AV → List Nat
 | r :: rs, v :: vs => DQ H r v ++ zd H rs vs
 | _, _ => []
def j8 (r : AV) (v : AV) (H : AH) : Prop :=
 match r, v with
 | .ao rs, .ao vs => z4 H rs vs ∧ px (qi rs vs) (zd H rs vs) = true
 | r, v => sM H r v
theorem x_ {H : AH} {r v : AV} (h : sM H r v) : ∃ r0, qd r0 r ∧ ko H r0 v ∧ jt r0 v = jt r v ∧ (∀ b ∈ po H r0 v, b ∈ DQ H r v) ∧ (jt r0 v = [] ∨ po H r0 v = []) ∧ (jt r0 v).Nodup := by
 unfold sM at h
 split at h
 ·rename_i e s z l b g i m
  obtain ⟨l0, h1, h2, h3, h4⟩ := h
  exact ⟨.own e s z l0, .own e s z l0 l h4, ⟨h1, h2, h3⟩, rfl, by simp [po], .inr rfl, by simp [jt]⟩
 ·rename_i x
  obtain ⟨y, ids, h1, h2⟩ := h
  obtain ⟨y0, js, k1, k2, k3⟩ := (gL H 5000).1 _ _ _ h1
  refine ⟨.t y0, .t y0 x (.trans _ _ _ k3 h2), by simp only [ko, k1, Option.map_some], rfl, fun b hb => ?_, .inl rfl, by simp [jt]⟩
  simp only [po, k1] at hb
  simp only [DQ, h1]
  exact k2 b hb
 ·exact h.elim
theorem x9 {H : AH} : ∀ {rs vs : List AV}, z4 H rs vs → ∃ r0, sb r0 rs ∧ tS H r0 vs ∧ ot r0 vs = qi rs vs ∧ (∀ b ∈ p9 H r0 vs, b ∈ zd H rs vs)
 | [], [], _ => ⟨[], trivial, trivial, rfl, by simp [p9]⟩
 | r :: rs, v :: vs, h => by
  obtain ⟨x, h1, h2, h3, h4, _, _⟩ := x_ h.1
  obtain ⟨l, k1, k2, k3, k4⟩ := x9 h.2
  have e : qE H x v = ko H x v ∧ qj x v = jt x v ∧ vn H x v = po H x v := by cases h1 <;> exact ⟨rfl, rfl, rfl⟩
  refine ⟨x :: l, ⟨h1, k1⟩, ⟨by rw [e.1]; exact h2, k2⟩, by simp only [ot, qi, e.2.1, h3, k3], fun b hb => ?_⟩
  simp only [p9, zd, List.mem_append, e.2.2] at hb ⊢
  exact hb.imp (h4 b) (k4 b)
 | [], _ :: _, h => h.elim
 | _ :: _, [], h => h.elim
theorem Hs {own a b : List Nat} (h : px own b = true) (hs : ∀ x ∈ a, x ∈ b) : px own a = true := by
 simp only [px, Bool.and_eq_true, decide_eq_true_eq, List.all_eq_true] at h ⊢
 refine ⟨h.1, fun x hx => ?_⟩
 have := h.2 x hx
 simp at this ⊢
 exact fun QU => this (hs x QU)
theorem j8.ok {r v : AV} {H : AH} (h : j8 r v H) : ∃ r0, vu r0 r ∧ Pack r0 v H := by
 have single : sM H r v → ∃ r0, vu r0 r ∧ Pack r0 v H := fun h => by
  obtain ⟨x, h1, h2, h3, h4, h5, h6⟩ := x_ h
  have e : zb H x v = ko H x v ∧ owns x v = jt x v ∧ vm H x v = po H x v := by cases h1 <;> exact ⟨rfl, rfl, rfl⟩
  refine ⟨x, .one _ _ h1, by rw [e.1]; exact h2, ?_⟩
  rw [e.2.1, e.2.2]
  simp only [px, Bool.and_eq_true, decide_eq_true_eq, List.all_eq_true]
  refine ⟨h6, fun b hb => ?_⟩
  rcases h5 with h5 | h5
  ·rw [h5] at hb; simp at hb
  ·rw [h5]; rfl
 unfold j8 at h
 split at h
 ·obtain ⟨l, k1, k2, k3, k4⟩ := x9 h.1
  exact ⟨.ao l, .ao _ _ k1, k2, by simp only [owns, vm, k3]; exact Hs h.2 k4⟩
 ·exact single h
theorem φ.fR {P : Program} {f : FuncId} {ts : List T} {r : AV} (h : γ P f (ts.map .t) [] (j8 r)) (hn : aL r = true) : φ P f ts r := by
 refine ⟨hn, fun n F w vs hF hl hr => ?_⟩
 have ke : HS w ⟨F, fun _ => none⟩ [] w.heap.size := ⟨by simp, by simp, fun cb hf => ⟨hF cb hf, fun b hb => by cases hb⟩, Nat.le_refl _, by simp, by simp, by simp, by simp⟩
 have lg : ∀ cb, (Cx.mk F fun _ => none).M [] cb → F cb := by
  rintro cb (h | ⟨b, ν, hb, _⟩)
  ·exact h
  ·simp at hb
 refine (h w.heap.size ⟨F, fun _ => none⟩ w vs ke (by simpa using hl) (ov fun i x v hi hv => (hr i x v hi hv).mono fun b _ hb => ⟨rfl, fun hm => hb (lg b hm)⟩)).mono ?_
 rintro e w' ⟨v, c', r', H', rfl, cY, hs, ev, dD, hp⟩
 obtain ⟨r0, h1, h2⟩ := hp.ok
 obtain ⟨v', G, k1, k2, k3, k4, k5⟩ := rD n hF cY hs ev dD h2
 cases k1
 obtain ⟨q1, q2⟩ := B7 h1 k4 k5
 exact ⟨_, G, rfl, k2, k3, q1, q2⟩
end Go.Proofs.YtcogcbplmkcojaaGreatDoor
namespace Go.Proofs.YtcogcbplmkcojaaGreatDoor
open Go.RowKit
set_option linter.unusedVariables false
set_option linter.unusedSimpArgs false
def af (P : Program) (f : FuncId) (ts : List T) (S : AV → Prop) : Prop :=
 (∀ r, S r → aL r = true) ∧ ∀ (n : Nat) (F : Nat → Prop) (w : World) (vs : Array Value), (∀ cb, F cb → cb < w.heap.size) → vs.size = ts.length →
  (∀ (i : Nat) t v, ts[i]? = some t → vs[i]? = some v → RT w F t v) →
  xO P f vs w fun e w' => ∃ r v G, S r ∧ e = .returned v ∧ Below w.heap.size w w' ∧ (∀ b cb, G b = some cb → n ≤ b) ∧
   RA w' ⟨F, G⟩ (List.replicate n .dead ++ (imp n r).2) (imp n r).1 v ∧ HS w' ⟨F, G⟩ (List.replicate n .dead ++ (imp n r).2) w.heap.size
theorem af.Λ {P : Program} {f : FuncId} {ts : List T} {S : AV → Prop} (h : γ P f (ts.map .t) [] (fun v H => ∃ r, S r ∧ j8 r v H)) (hn : ∀ r, S r → aL r = true) : af P f ts S := by
 refine ⟨hn, fun n F w vs hF hl hr => ?_⟩
 have ke : HS w ⟨F, fun _ => none⟩ [] w.heap.size := ⟨by simp, by simp, fun cb hf => ⟨hF cb hf, fun b hb => by cases hb⟩, Nat.le_refl _, by simp, by simp, by simp, by simp⟩
 have lg : ∀ cb, (Cx.mk F fun _ => none).M [] cb → F cb := by
  rintro cb (h | ⟨b, ν, hb, _⟩)
  ·exact h
  ·simp at hb
 refine (h w.heap.size ⟨F, fun _ => none⟩ w vs ke (by simpa using hl) (ov fun i x v hi hv => (hr i x v hi hv).mono fun b _ hb => ⟨rfl, fun hm => hb (lg b hm)⟩)).mono ?_
 rintro e w' ⟨v, c', r', H', rfl, cY, hs, ev, dD, r, hS, hp⟩
 obtain ⟨r0, h1, h2⟩ := hp.ok
 obtain ⟨v', G, k1, k2, k3, k4, k5⟩ := rD n hF cY hs ev dD h2
 cases k1
 obtain ⟨q1, q2⟩ := B7 h1 k4 k5
 exact ⟨r, _, G, hS, rfl, k2, k3, q1, q2⟩
theorem af.IJ {P : Program} {f : FuncId} {ts : List T} {S : AV → Prop} (h : γ P f (ts.map .t) [] (fun v H => ∃ r, S r ∧ Pack r v H)) (hn : ∀ r, S r → aL r = true) : af P f ts S := by
 refine ⟨hn, fun n F w vs hF hl hr => ?_⟩
 have ke : HS w ⟨F, fun _ => none⟩ [] w.heap.size := ⟨by simp, by simp, fun cb hf => ⟨hF cb hf, fun b hb => by cases hb⟩, Nat.le_refl _, by simp, by simp, by simp, by simp⟩
 have lg : ∀ cb, (Cx.mk F fun _ => none).M [] cb → F cb := by
  rintro cb (h | ⟨b, ν, hb, _⟩)
  ·exact h
  ·simp at hb
 refine (h w.heap.size ⟨F, fun _ => none⟩ w vs ke (by simpa using hl) (ov fun i x v hi hv => (hr i x v hi hv).mono fun b _ hb => ⟨rfl, fun hm => hb (lg b hm)⟩)).mono ?_
 rintro e w' ⟨v, c', r', H', rfl, cY, hs, ev, dD, r, hS, h2⟩
 obtain ⟨v', G, k1, k2, k3, k4, k5⟩ := rD n hF cY hs ev dD h2
 cases k1
 exact ⟨r, _, G, hS, rfl, k2, k3, k4, k5⟩
theorem γ.g_ {P : Program} {f : FuncId} {args : List AV} {ts : List T} {S : AV → Prop} {H : AH} {Q : AV → AH → Prop} (h : af P f ts S) (ha : ic args = some ts) (k : ∀ r, S r → Q (imp H.length r).1 (H ++ (imp H.length r).2)) :
 γ P f args H Q := by
 intro B c w vs hs hl hr
 have pe := jG ha
 refine (h.2 H.length (c.M H) w vs (fun cb qQ => Og hs qQ) (by rw [hl, pe]; simp) (fun i t v hi hv => ?_)).mono fun e w' ⟨r, v, G, hS, he, dD, hG, cY, aF⟩ => ?_
 ·have := hr i (.t t) v (by rw [pe]; simp [hi]) hv
  cases this with | t _ _ h => exact h
 ·obtain ⟨ev, fa⟩ := join (Hb := (imp H.length r).2) hs dD hG aF (la _ _) (fun b e s z g l i x j y v hb hi hj iu => iu.mono fun cb _ qQ => ⟨rfl, v8 (fun _ h => h) qQ⟩)
  refine ⟨v, _, _, _, he, ?_, fa, ev, ?_, k r hS⟩
  ·exact cY.shift (n := H.length) (fun cb qQ => v8 (fun _ h => h) qQ) (fun b hb => kV rfl hb) (fun b hb => by simp only [if_neg (Nat.not_lt.2 hb)]) (F0 (h.1 r hS))
  ·exact dD.mono hs.hB
theorem H6 (l : List T) : ic (l.map .t) = some l := by
 induction l with
 | nil => rfl
 | cons x r ih => simp only [List.map_cons, ic, xe, ih]
theorem af.sub {P : Program} {f : FuncId} {ts kY : List T} {S : AV → Prop} (h : af P f kY S) (hs : gg ts kY) : af P f ts S := by
 obtain ⟨hl, hg⟩ := hs.get
 refine ⟨h.1, fun n F w vs hF bH hr => h.2 n F w vs hF (by omega) fun i t v hi hv => ?_⟩
 obtain ⟨c, hc⟩ := dy hl hi
 exact RT.sub (hg i c t hc hi) (hr i c v hc hv)
theorem af.weaken {P : Program} {f : FuncId} {ts : List T} {S S' : AV → Prop} (h : af P f ts S) (hs : ∀ r, S r → S' r) (hn : ∀ r, S' r → aL r = true) : af P f ts S' :=
 ⟨hn, fun n F w vs hF hl hr => (h.2 n F w vs hF hl hr).mono fun e w' ⟨r, v, G, h1, h2⟩ => ⟨r, v, G, hs r h1, h2⟩⟩
theorem γ.cD {P : Program} {f : FuncId} {args : List AV} {kY ts : List T} {ids : List Nat} {S : AV → Prop} {H : AH} {Q : AV → AH → Prop} (h : af P f ts S) (ha : fG 32 H args = some (kY, ids)) (vh : gg kY ts)
 (k : ∀ r, S r → Q (imp H.length r).1 (dY ids H ++ (imp H.length r).2)) : γ P f args H Q := by
 obtain ⟨x, js, h1, Gl, h3⟩ := (gL H 32).2 _ _ _ ha
 have h := h.sub (h3.trans vh)
 intro B c w vs hs hl hr
 obtain ⟨ev, aF⟩ := pY ids hs
 obtain ⟨hlen, iu⟩ := mn hs (M' := c.M (dY ids H)) (fun cb hm => by
  rcases hm with hm | ⟨b, ν, hb, gZ, hg⟩
  ·exact .inl hm
  ·rcases gR ids hb with rfl | ⟨_, hb⟩
   ·simp [Ψ.live] at gZ
   ·exact .inr ⟨b, ν, hb, gZ, hg⟩) 32 h1 (vs := vs.toList) (by simpa using hl.symm) (fun i x v hi hv => hr i x v hi (by simpa using hv))
  (fun b hb cb hg hm => by
   rcases hm with hm | ⟨b2, ν, iz, gZ, kg⟩
   ·exact ((hs.fb cb hm).2 b hg).elim
   ·have := hs.inj b b2 cb hg kg
    subst this
    rcases gR ids iz with rfl | ⟨hn, _⟩
    ·simp [Ψ.live] at gZ
    ·exact hn (Gl b hb))
 have pe : ic (x.map .t) = some x := H6 x
 have key := γ.g_ (H := dY ids H) (Q := Q) h pe (by rw [rP]; exact k) B c w vs aF (by rw [List.length_map]; omega) (ov fun i x v hi hv => iu i x v hi (by simpa using hv))
 refine key.mono ?_
 rintro e w' ⟨v, c', r', H', he, h1, h2, h3, h4, h5⟩
 exact ⟨v, c', r', H', he, h1, h2, ev.trans h3, h4, h5⟩
theorem γ.vH {P : Program} {f : FuncId} {args : List AV} {kY ts : List T} {ids : List Nat} {S : AV → Prop} {H : AH} {Q : AV → AH → Prop} (h : af P f ts S) (ha : fG 32 H args = some (kY, ids)) (vh : gg kY ts) (hf : ∀ r, S r → Flat r)
 (k : ∀ r, S r → Q (imp H.length r).1 (H ++ (imp H.length r).2)) : γ P f args H Q := by
 obtain ⟨x, js, F8, Gl, h3⟩ := (gL H 32).2 _ _ _ ha
 have h := h.sub (h3.trans vh)
 intro B c w vs hs hl hr
 obtain ⟨hlen, iu⟩ := mn hs (M' := fun _ => False) (fun _ h => h.elim) 32 F8 (vs := vs.toList) (by simpa using hl.symm) (fun i x v hi hv => hr i x v hi (by simpa using hv)) (fun _ _ _ _ h => h)
 refine (h.2 H.length (fun _ => False) w vs (fun cb h => h.elim) (by omega) (fun i t v hi hv => iu i t v hi (by simpa using hv))).mono fun e w' ⟨r, v, G, hS, he, dD, hG, cY, aF⟩ => ?_
 obtain ⟨g1, g2⟩ := Aq (n := H.length) (hf r hS)
 obtain ⟨ev, fa⟩ := join (Hb := (imp H.length r).2) hs dD hG aF (la _ _) (fun b e s z g l i x j y v hb hi hj iu => by
  have := g2 _ (List.mem_of_getElem? hb) x (List.mem_of_getElem? hi)
  exact rT iu (qt this j y hj))
 refine ⟨v, _, _, _, he, ?_, fa, ev, dD.mono hs.hB, k r hS⟩
 exact cY.zJ (n := H.length) (fun b hb => kV rfl hb) (fun b hb => by simp only [if_neg (Nat.not_lt.2 hb)]) g1
theorem γ.EX (N : Nat) {P : Program} {f : FuncId} {args : List AV} {kY ts : List T} {ids : List Nat} {S : AV → Prop} {H : AH} {Q : AV → AH → Prop} (h : af P f ts S) (ha : fG N H args = some (kY, ids)) (vh : gg kY ts) (hf : ∀ r, S r → Flat r)
 (k : ∀ r, S r → Q (imp H.length r).1 (H ++ (imp H.length r).2)) : γ P f args H Q := by
 obtain ⟨x, js, F8, Gl, h3⟩ := (gL H N).2 _ _ _ ha
 have h := h.sub (h3.trans vh)
 intro B c w vs hs hl hr
 obtain ⟨hlen, iu⟩ := mn hs (M' := fun _ => False) (fun _ h => h.elim) N F8 (vs := vs.toList) (by simpa using hl.symm) (fun i x v hi hv => hr i x v hi (by simpa using hv)) (fun _ _ _ _ h => h)
 refine (h.2 H.length (fun _ => False) w vs (fun cb h => h.elim) (by omega) (fun i t v hi hv => iu i t v hi (by simpa using hv))).mono fun e w' ⟨r, v, G, hS, he, dD, hG, cY, aF⟩ => ?_
 obtain ⟨g1, g2⟩ := Aq (n := H.length) (hf r hS)
 obtain ⟨ev, fa⟩ := join (Hb := (imp H.length r).2) hs dD hG aF (la _ _) (fun b e s z g l i x j y v hb hi hj iu => by
  have := g2 _ (List.mem_of_getElem? hb) x (List.mem_of_getElem? hi)
  exact rT iu (qt this j y hj))
 refine ⟨v, _, _, _, he, ?_, fa, ev, dD.mono hs.hB, k r hS⟩
 exact cY.zJ (n := H.length) (fun b hb => kV rfl hb) (fun b hb => by simp only [if_neg (Nat.not_lt.2 hb)]) g1
end Go.Proofs.YtcogcbplmkcojaaGreatDoor
namespace Go.Proofs.YtcogcbplmkcojaaGreatDoor
open Go.ChangeShapes Go.WideShapes Go.ChangeAt Go.RowKit
set_option linter.unusedVariables false
set_option linter.unusedSimpArgs false
inductive fX (N : Nat) : T → Prop
 | bool (b : Bool) : fX N (.bool b)
 | int (k : IntKind) (n : Int) : fX N (.int k n)
 | str (s : List UInt8) (h : s.length ≤ N) : fX N (.str s)
 | av : fX N .av
 | vec (s : Nat) (l : List T) (h : l.length ≤ N) (hs : ∀ e ∈ l, fX N e) : fX N (.vec s l)
 | κ (s : Nat) (l : List T) (h : l.length ≤ N) (hs : ∀ e ∈ l, fX N e) : fX N (.κ s l)
 | agg (cs : List T) (hs : ∀ e ∈ cs, fX N e) : fX N (.agg cs)
theorem fX.elem {N k : Nat} {cs : List T} (h : ∀ c ∈ cs, fX N c) : fX N (dV k cs) := by
 unfold dV
 split
 ·exact h _ (by simp)
 ·exact .agg _ h
theorem fX.cells {N : Nat} {x : T} (h : fX N x) : ∀ c ∈ x.cells, fX N c := by
 cases h with
 | agg cs hs => exact hs
 | bool b => intro c hc; rw [List.mem_singleton.1 hc]; exact .bool b
 | int k n => intro c hc; rw [List.mem_singleton.1 hc]; exact .int k n
 | str s h => intro c hc; rw [List.mem_singleton.1 hc]; exact .str s h
 | av => intro c hc; rw [List.mem_singleton.1 hc]; exact .av
 | vec s l h hs => intro c hc; rw [List.mem_singleton.1 hc]; exact .vec s l h hs
 | κ s l h hs => intro c hc; rw [List.mem_singleton.1 hc]; exact .κ s l h hs
section
variable {H : Type} {enc : TypeId × Value → H} {P : Program} {w : World} {sp : Nat → Bool} {held : Bool} {N : Nat}
end
end Go.Proofs.YtcogcbplmkcojaaGreatDoor
namespace Go.Proofs.YtcogcbplmkcojaaGreatDoor
open Go.RowKit
set_option linter.unusedVariables false
set_option linter.unusedSimpArgs false
inductive LB (n : Nat) : AV → Prop
 | t (x : T) : LB n (.t x)
 | ptr (b g i o : Nat) (h : b < n) : LB n (.ptr b g i o)
 | sl (b g i l : Nat) (h : b < n) : LB n (.sl b g i l)
 | agg (cs : List AV) (h : ∀ (i : Nat) x, cs[i]? = some x → LB n x) : LB n (.agg cs)
 | ao (cs : List AV) (h : ∀ (i : Nat) x, cs[i]? = some x → LB n x) : LB n (.ao cs)
 | fn (f : Fn) (a b : List AV) (ha : ∀ (i : Nat) x, a[i]? = some x → LB n x) (hb : ∀ (i : Nat) x, b[i]? = some x → LB n x) : LB n (.fn f a b)
 | bY (t : TypeId) (x : AV) (h : LB n x) : LB n (.bY t x)
 | dc : LB n .dc
 | bj : LB n .bj
def v5 (n : Nat) : AV → Bool
 | .t _ => true
 | .ptr b _ _ _ => Nat.blt b n
 | .sl b _ _ _ => Nat.blt b n
 | .dc => true
 | .bj => true
 | _ => false
def sW (n : Nat) : AV → Bool
 | .agg cs => cs.all (v5 n)
 | .fn _ a b => a.all (v5 n) && b.all (v5 n)
 | .bY _ x => v5 n x
 | x => v5 n x
def Al (n : Nat) : Ψ → Bool
 | .dead => true
 | .box cs => cs.all (sW n)
 | .arr _ _ _ _ (.ts _) => true
 | .arr _ _ _ _ (.vs l) => l.all (sW n)
 | .iter _ _ => true
theorem vS {a b : Nat} (h : Nat.blt a b = true) : a < b := by rw [Nat.blt_eq] at h; exact h
theorem FQ {n : Nat} {x : AV} (h : v5 n x = true) : LB n x := by
 cases x with
 | t x => exact .t x
 | ptr b g i o => exact .ptr b g i o (vS h)
 | sl b g i l => exact .sl b g i l (vS h)
 | dc => exact .dc
 | bj => exact .bj
 | _ => simp [v5] at h
theorem xz {n : Nat} {l : List AV} (h : l.all (v5 n) = true) : ∀ (i : Nat) x, l[i]? = some x → LB n x := fun i x hi => FQ (List.all_eq_true.1 h x (List.mem_of_getElem? hi))
theorem Am {n : Nat} {x : AV} (h : sW n x = true) : LB n x := by
 cases x with
 | agg cs => exact .agg cs (xz h)
 | fn f a b => simp only [sW, Bool.and_eq_true] at h; exact .fn f a b (xz h.1) (xz h.2)
 | bY t x => exact .bY t x (FQ h)
 | t x => exact .t x
 | ptr b g i o => exact .ptr b g i o (vS h)
 | sl b g i l => exact .sl b g i l (vS h)
 | dc => exact .dc
 | bj => exact .bj
 | _ => simp [sW, v5] at h
theorem LB.cells {n : Nat} {x : AV} (h : LB n x) : ∀ (j : Nat) y, x.cells[j]? = some y → LB n y := by
 intro j y hj
 cases h with
 | agg cs h => exact h j y hj
 | t x => rw [T.dp] at hj; simp only [List.getElem?_map, Option.map_eq_some_iff] at hj; obtain ⟨_, _, rfl⟩ := hj; exact .t _
 | ptr b g i o h => cases j <;> simp [AV.cells] at hj; subst hj; exact .ptr _ _ _ _ h
 | sl b g i l h => cases j <;> simp [AV.cells] at hj; subst hj; exact .sl _ _ _ _ h
 | ao cs h => cases j <;> simp [AV.cells] at hj; subst hj; exact .ao cs h
 | fn f a b ha hb => cases j <;> simp [AV.cells] at hj; subst hj; exact .fn f a b ha hb
 | bY t x h => cases j <;> simp [AV.cells] at hj; subst hj; exact .bY t x h
 | dc => cases j <;> simp [AV.cells] at hj; subst hj; exact .dc
 | bj => cases j <;> simp [AV.cells] at hj; subst hj; exact .bj
theorem RA.low {w : World} {c1 c2 : Cx} {H1 H2 : AH} {n : Nat} (hM : ∀ cb, c2.M H2 cb → c1.M H1 cb) (hH : ∀ b ν, b < n → H1[b]? = some ν → H2[b]? = some ν) (hG : ∀ b, b < n → c2.G b = c1.G b)
 {x : AV} {v : Value} (h : RA w c1 H1 x v) (hx : LB n x) : RA w c2 H2 x v := by
 induction h with
 | t x v h => exact .t x v (h.mono fun b _ hb => ⟨rfl, fun hm => hb (hM b hm)⟩)
 | ptr b g i o v ν hb hm hv =>
  cases hx with | ptr _ _ _ _ hn =>
  refine .ptr b g i o v ν (hH b ν hn hb) ?_ hv
  cases ν with
  | dead => trivial
  | box => rw [hG b hn]; exact hm
  | iter => rw [hG b hn]; exact hm
  | arr => rw [hG b hn]; exact hm
 | sl b g i len v ν hb hm hv =>
  cases hx with | sl _ _ _ _ hn =>
  refine .sl b g i len v ν (hH b ν hn hb) ?_ hv
  cases ν with
  | dead => trivial
  | box => exact hm
  | iter => exact hm
  | arr => rw [hG b hn]; exact hm
 | agg cs vs hl h1 _ ih => cases hx with | agg _ hx => exact .agg cs vs hl h1 fun i x v hi hv => ih i x v hi hv (hx i x hi)
 | ao cs vs hl _ ih => cases hx with | ao _ hx => exact .ao cs vs hl fun i x v hi hv => ih i x v hi hv (hx i x hi)
 | fn f a b p q ha hb _ _ lG lF => cases hx with | fn _ _ _ h1 h2 => exact .fn f a b p q ha hb (fun i x v hi hv => lG i x v hi hv (h1 i x hi)) (fun i x v hi hv => lF i x v hi hv (h2 i x hi))
 | bY t x v _ ih => cases hx with | bY _ _ hx => exact .bY t x v (ih hx)
 | dc ad => exact .dc ad
 | bj v => exact .bj v
theorem RA.lb {w : World} {c : Cx} {H : AH} {x : AV} {v : Value} (h : RA w c H x v) : LB H.length x := by
 induction h with
 | t x v h => exact .t x
 | ptr b g i o v ν hb => exact .ptr b g i o (ι hb)
 | sl b g i len v ν hb => exact .sl b g i len (ι hb)
 | agg cs vs hl h1 _ ih =>
  refine .agg cs fun i x hi => ?_
  have : i < vs.size := by have := ι hi; omega
  exact ih i x _ hi (Array.getElem?_eq_getElem this)
 | ao cs vs hl _ ih =>
  refine .ao cs fun i x hi => ?_
  have : i < vs.size := by have := ι hi; omega
  exact ih i x _ hi (Array.getElem?_eq_getElem this)
 | fn f a b p q ha hb _ _ lG lF =>
  refine .fn f a b (fun i x hi => ?_) (fun i x hi => ?_)
  ·have : i < p.size := by have := ι hi; omega
   exact lG i x _ hi (Array.getElem?_eq_getElem this)
  ·have : i < q.size := by have := ι hi; omega
   exact lF i x _ hi (Array.getElem?_eq_getElem this)
 | bY t x v _ ih => exact .bY t x ih
 | dc ad => exact .dc
 | bj v => exact .bj
theorem Ψ.NJ {w w' : World} {c1 PR c2 PP : Cx} {b : Nat} (h1 : c2.G b = c1.G b) (h2 : PP.G b = PR.G b) {ν az : Ψ} (h : Ψ.goes w c1 w' PR b ν az) : Ψ.goes w c2 w' PP b ν az := by
 cases az with
 | dead => cases ν <;> trivial
 | box => cases ν <;> first | exact h.elim | (simp only [Ψ.goes, h1, h2]; exact h)
 | iter => cases ν <;> first | exact h.elim | (simp only [Ψ.goes, h1, h2]; exact h)
 | arr => cases ν <;> first | exact h.elim | (simp only [Ψ.goes, h1, h2]; exact h)
theorem γ.frame {P : Program} {f : FuncId} {args : List AV} {H : AH} {Q0 : AV → AH → Prop} (h : γ P f args H Q0) (K : AH) {Q : AV → AH → Prop} (ha : args.all (sW H.length) = true) (hH : H.all (Al H.length) = true)
 (k : ∀ r H', Q0 r H' → H'.length = H.length ∧ Q r (H' ++ K)) : γ P f args (H ++ K) Q := by
 intro B c w vs hs mc QZ
 obtain ⟨n, hn⟩ : ∃ n, n = H.length := ⟨_, rfl⟩
 rw [← hn] at ha hH
 let KB : Nat → Nat → Prop := fun b cb => n ≤ b ∧ ∃ ν, (H ++ K)[b]? = some ν ∧ ν.live = true ∧ c.G b = some cb
 let c0 : Cx := ⟨fun cb => c.F cb ∨ ∃ b, KB b cb, fun b => if b < n then c.G b else none⟩
 have gH : ∀ b, b < n → (H ++ K)[b]? = H[b]? := fun b hb => List.getElem?_append_left (by omega)
 have gG : ∀ b, b < n → c0.G b = c.G b := fun b hb => if_pos hb
 have gN : ∀ b cb, c0.G b = some cb → b < n ∧ c.G b = some cb := fun b cb hg => by
  simp only [c0] at hg
  split at hg
  ·exact ⟨by assumption, hg⟩
  ·cases hg
 have lg : ∀ cb, c0.M H cb → c.M (H ++ K) cb := by
  rintro cb ((hf | ⟨b, _, ν, hb, hl, hg⟩) | ⟨b, ν, hb, hl, hg⟩)
  ·exact .inl hf
  ·exact .inr ⟨b, ν, hb, hl, hg⟩
  ·exact .inr ⟨b, ν, by rw [gH b (gN b cb hg).1]; exact hb, hl, (gN b cb hg).2⟩
 have Pz : ∀ cb, c0.O H cb → c.O (H ++ K) cb := by
  rintro cb ⟨b, ν, hb, hl, hg⟩
  exact ⟨b, ν, by rw [gH b (gN b cb hg).1]; exact hb, hl, (gN b cb hg).2⟩
 have down : ∀ {x : AV} {v : Value}, LB n x → RA w c (H ++ K) x v → RA w c0 H x v := fun hx hr =>
  hr.low lg (fun b ν hb hk => by rw [gH b hb] at hk; exact hk) (fun b hb => gG b hb) hx
 have M3 : ∀ b ν, H[b]? = some ν → Al n ν = true := fun b ν hb => List.all_eq_true.1 hH ν (List.mem_of_getElem? hb)
 have ke : HS w c0 H B := by
  refine ⟨fun b b' cb h1 h2 => hs.inj b b' cb (gN b cb h1).2 (gN b' cb h2).2, fun b cb h1 => hs.base b cb (gN b cb h1).2, fun cb hf => ?_, hs.hB, fun b cb h1 => by rw [← hn]; exact (gN b cb h1).1, fun b cb cells hb hg => ?_, fun b cb e s z g l hb hg => ?_, fun b cb s p hb hg => ?_⟩
  ·rcases hf with hf | ⟨b, hb, ν, _, _, hg⟩
   ·exact ⟨(hs.fb cb hf).1, fun b' dP => (hs.fb cb hf).2 b' (gN b' cb dP).2⟩
   ·refine ⟨(hs.base b cb hg).2, fun b' dP => ?_⟩
    have h1 := gN b' cb dP
    have := hs.inj b b' cb hg h1.2
    omega
  ·obtain ⟨g1, g2⟩ := gN b cb hg
   obtain ⟨arr, e, a1, a2, a3⟩ := hs.box b cb cells (by rw [gH b g1]; exact hb) g2
   have hl := M3 b _ hb
   simp only [Al] at hl
   exact ⟨arr, e, a1, a2, fun j x v hj hv => ⟨(a3 j x v hj hv).1, down (Am (List.all_eq_true.1 hl x (List.mem_of_getElem? hj))) (a3 j x v hj hv).2.1, (a3 j x v hj hv).2.2⟩⟩
  ·obtain ⟨g1, g2⟩ := gN b cb hg
   obtain ⟨arr, cap, a1, a2, a3, a4, a5⟩ := hs.arr b cb e s z g l (by rw [gH b g1]; exact hb) g2
   have hl := M3 b _ hb
   refine ⟨arr, cap, a1, a2, a3, a4, fun i x hi => ⟨(a5 i x hi).1, fun j y hj => ?_⟩⟩
   obtain ⟨v, q1, q2, q3, q4⟩ := (a5 i x hi).2 j y hj
   refine ⟨v, q1, q2, down ?_ q3, q4⟩
   cases l with
   | ts l =>
    simp only [Sq.get, Option.map_eq_some_iff] at hi
    obtain ⟨t, _, rfl⟩ := hi
    exact (LB.t t).cells j y hj
   | vs l =>
    simp only [Al] at hl
    exact (Am (List.all_eq_true.1 hl x (List.mem_of_getElem? hi))).cells j y hj
  ·obtain ⟨g1, g2⟩ := gN b cb hg
   exact hs.iter b cb s p (by rw [gH b g1]; exact hb) g2
 refine (h B c0 w vs ke mc fun i a v hi hv => down (Am (List.all_eq_true.1 ha a (List.mem_of_getElem? hi))) (QZ i a v hi hv)).mono ?_
 rintro e w' ⟨v, CI, r, H0, he, cY, aF, tk, dD, hq⟩
 obtain ⟨hlen, hq⟩ := k r H0 hq
 have hlen : H0.length = n := by omega
 have eF : CI.F = c0.F := tk.F
 let c' : Cx := ⟨c.F, fun b => if b < n then CI.G b else match (H ++ K)[b]? with | some ν => if ν.live = true then c.G b else none | none => none⟩
 have yE : ∀ b, b < n → (H0 ++ K)[b]? = H0[b]? := fun b hb => List.getElem?_append_left (by omega)
 have Kq : ∀ b, n ≤ b → (H0 ++ K)[b]? = (H ++ K)[b]? := fun b hb => by
  rw [List.getElem?_append_right (by omega), List.getElem?_append_right (by omega), hlen, hn]
 have g' : ∀ b, b < n → c'.G b = CI.G b := fun b hb => if_pos hb
 have gK : ∀ b cb, n ≤ b → c'.G b = some cb → KB b cb := fun b cb hb hg => by
  simp only [c'] at hg
  rw [if_neg (by omega)] at hg
  split at hg
  ·rename_i ν lP
   split at hg
   ·exact ⟨hb, ν, lP, by assumption, hg⟩
   ·cases hg
  ·cases hg
 have NL : ∀ b ν, n ≤ b → (H ++ K)[b]? = some ν → ν.live = true → c'.G b = c.G b := fun b ν hb h1 h2 => by
  simp only [c']
  rw [if_neg (by omega), h1]
  simp [h2]
 have PB : ∀ cb, c'.O (H0 ++ K) cb → CI.O H0 cb ∨ ∃ b, KB b cb := by
  rintro cb ⟨b, ν, hb, hl, hg⟩
  rcases Nat.lt_or_ge b n with χ | eE
  ·rw [g' b χ] at hg; rw [yE b χ] at hb; exact .inl ⟨b, ν, hb, hl, hg⟩
  ·exact .inr ⟨b, gK b cb eE hg⟩
 have RQ : ∀ cb, c'.M (H0 ++ K) cb → CI.M H0 cb := by
  rintro cb (hf | ho)
  ·exact .inl (by rw [eF]; exact .inl hf)
  ·rcases PB cb ho with ⟨b, ν, hb, hl, hg⟩ | hk
   ·exact .inr ⟨b, ν, hb, hl, hg⟩
   ·exact .inl (by rw [eF]; exact .inr hk)
 have kept : ∀ b cb, KB b cb → w'.heap[cb]? = w.heap[cb]? := fun b cb ⟨hb, ν, h1, h2, h3⟩ =>
  tk.mem cb (hs.base b cb h3).2 fun ⟨b', az, _, _, hg⟩ => by
   have q := gN b' cb hg
   have := hs.inj b b' cb h3 q.2
   omega
 have ev : Ev w c (H ++ K) w' c' (H0 ++ K) := by
  refine ⟨rfl, tk.size, fun b ν hb => ?_, fun cb ho => ?_, fun cb χ ho => tk.mem cb χ fun q => ho (Pz cb q), fun b ν hb hf hg => ?_⟩
  ·rcases Nat.lt_or_ge b n with χ | eE
   ·rw [gH b χ] at hb
    obtain ⟨az, h1, h2⟩ := tk.ν b ν hb
    exact ⟨az, by rw [yE b χ]; exact h1, Ψ.NJ (gG b χ).symm (g' b χ) h2⟩
   ·refine ⟨ν, by rw [Kq b eE]; exact hb, ?_⟩
    cases ν with
    | dead => trivial
    | box cs => exact ⟨rfl, fun cb hc => by rw [NL b _ eE hb rfl]; exact hc⟩
    | iter s p => exact ⟨rfl, fun cb hc => by rw [NL b _ eE hb rfl]; exact hc⟩
    | arr e s z g l => exact ⟨rfl, rfl, rfl, Nat.le_refl _, Nat.le_refl _, fun _ => ⟨rfl, fun cb hc => ⟨by rw [NL b _ eE hb rfl]; exact hc, by simp only [dI, kept b cb ⟨eE, _, hb, rfl, hc⟩]⟩⟩⟩
  ·rcases PB cb ho with h1 | ⟨b, eE, ν, h1, h2, h3⟩
   ·exact (tk.qn cb h1).imp (Pz cb) id
   ·exact .inl ⟨b, ν, h1, h2, h3⟩
  ·rcases Nat.lt_or_ge b n with χ | eE
   ·rw [g' b χ]
    rw [gH b χ] at hb
    exact tk.late b ν hb hf (by rw [gG b χ]; exact hg)
   ·simp only [c']
    rw [if_neg (by omega), hb]
    simp [hg]
 have up : ∀ {x : AV} {v : Value}, RA w' CI H0 x v → RA w' c' (H0 ++ K) x v := fun hr =>
  hr.low (n := n) RQ (fun b ν hb hk => by rw [yE b hb]; exact hk) (fun b hb => g' b hb) (by have := hr.lb; rwa [hlen] at this)
 refine ⟨v, c', r, H0 ++ K, he, up cY, ?_, ev, dD, hq⟩
 refine ⟨fun b b' cb h1 h2 => ?_, fun b cb h1 => ?_, fun cb hf => ⟨Nat.lt_of_lt_of_le (hs.fb cb hf).1 tk.size, fun b hg => ?_⟩, aF.hB, fun b cb h1 => ?_, fun b cb cells hb hg => ?_, fun b cb e s z g l hb hg => ?_, fun b cb s p hb hg => ?_⟩
 ·rcases Nat.lt_or_ge b n with χ | eE <;> rcases Nat.lt_or_ge b' n with xA | Nd
  ·rw [g' b χ] at h1; rw [g' b' xA] at h2; exact aF.inj b b' cb h1 h2
  ·rw [g' b χ] at h1
   exact ((aF.fb cb (by rw [eF]; exact .inr ⟨b', gK b' cb Nd h2⟩)).2 b h1).elim
  ·rw [g' b' xA] at h2
   exact ((aF.fb cb (by rw [eF]; exact .inr ⟨b, gK b cb eE h1⟩)).2 b' h2).elim
  ·obtain ⟨_, _, _, _, q1⟩ := gK b cb eE h1
   obtain ⟨_, _, _, _, q2⟩ := gK b' cb Nd h2
   exact hs.inj b b' cb q1 q2
 ·rcases Nat.lt_or_ge b n with χ | eE
  ·rw [g' b χ] at h1; exact aF.base b cb h1
  ·obtain ⟨_, _, _, _, q1⟩ := gK b cb eE h1
   have := hs.base b cb q1
   exact ⟨this.1, Nat.lt_of_lt_of_le this.2 tk.size⟩
 ·rcases Nat.lt_or_ge b n with χ | eE
  ·rw [g' b χ] at hg; exact (aF.fb cb (by rw [eF]; exact .inl hf)).2 b hg
  ·obtain ⟨_, _, _, _, q1⟩ := gK b cb eE hg
   exact (hs.fb cb hf).2 b q1
 ·rcases Nat.lt_or_ge b n with χ | eE
  ·rw [List.length_append]; omega
  ·obtain ⟨_, ν, q, _, _⟩ := gK b cb eE h1
   have := ι q
   rw [List.length_append] at this ⊢
   omega
 ·rcases Nat.lt_or_ge b n with χ | eE
  ·rw [g' b χ] at hg
   rw [yE b χ] at hb
   obtain ⟨arr, e, a1, a2, a3⟩ := aF.box b cb cells hb hg
   exact ⟨arr, e, a1, a2, fun j x v hj hv => ⟨(a3 j x v hj hv).1, up (a3 j x v hj hv).2.1, (a3 j x v hj hv).2.2⟩⟩
  ·have hk := gK b cb eE hg
   have q1 : c.G b = some cb := by obtain ⟨_, ν, _, _, q1⟩ := hk; exact q1
   rw [Kq b eE] at hb
   obtain ⟨arr, e, a1, a2, a3⟩ := hs.box b cb cells hb q1
   exact ⟨arr, e, (kept b cb hk).trans a1, a2, fun j x v hj hv => ⟨(a3 j x v hj hv).1, (a3 j x v hj hv).2.1.ev ev, (a3 j x v hj hv).2.2⟩⟩
 ·rcases Nat.lt_or_ge b n with χ | eE
  ·rw [g' b χ] at hg
   rw [yE b χ] at hb
   obtain ⟨arr, cap, a1, a2, a3, a4, a5⟩ := aF.arr b cb e s z g l hb hg
   refine ⟨arr, cap, a1, a2, a3, a4, fun i x hi => ⟨(a5 i x hi).1, fun j y hj => ?_⟩⟩
   obtain ⟨v, q1, q2, q3, q4⟩ := (a5 i x hi).2 j y hj
   exact ⟨v, q1, q2, up q3, q4⟩
  ·have hk := gK b cb eE hg
   have q1 : c.G b = some cb := by obtain ⟨_, ν, _, _, q1⟩ := hk; exact q1
   rw [Kq b eE] at hb
   obtain ⟨arr, cap, a1, a2, a3, a4, a5⟩ := hs.arr b cb e s z g l hb q1
   exact ⟨arr, cap, (kept b cb hk).trans a1, a2, a3, a4, a5.ev ev⟩
 ·rcases Nat.lt_or_ge b n with χ | eE
  ·rw [g' b χ] at hg
   rw [yE b χ] at hb
   exact aF.iter b cb s p hb hg
  ·have hk := gK b cb eE hg
   have q1 : c.G b = some cb := by obtain ⟨_, ν, _, _, q1⟩ := hk; exact q1
   rw [Kq b eE] at hb
   obtain ⟨bs, a1, a2⟩ := hs.iter b cb s p hb q1
   exact ⟨bs, (kept b cb hk).trans a1, a2⟩
end Go.Proofs.YtcogcbplmkcojaaGreatDoor
namespace Go.Proofs.YtcogcbplmkcojaaGreatDoor
open Go.RowKit
set_option linter.unusedVariables false
theorem γ.JQ {P : Program} {f : FuncId} {args args' : List AV} {H H' : AH} {Q : AV → AH → Prop} (ids : List Nat) (h : γ P f args' H' Q) (hlen : H'.length = H.length)
 (lP : ∀ (b : Nat) az, H'[b]? = some az → az = .dead ∨ (b ∉ ids ∧ ∃ ν, H[b]? = some ν ∧ sd ids H H' ν az))
 (ha : args'.length = args.length) (fM : ∀ (i : Nat) a a', args[i]? = some a → args'[i]? = some a' → et ids H H' a a') : γ P f args H Q := by
 intro B c w vs hs hl hr
 obtain ⟨ev, aF, ra⟩ := AY ids hs hlen lP
 refine (h B c w vs aF (by omega) fun i a' v hi hv => ?_).mono ?_
 ·have χ : i < args.length := by have := ι hi; omega
  exact ra (fM i _ a' (List.getElem?_eq_getElem χ) hi) (hr i _ v (List.getElem?_eq_getElem χ) hv)
 ·rintro e w' ⟨v, c', r, H2, he, h1, h2, h3, h4, h5⟩
  exact ⟨v, c', r, H2, he, h1, h2, ev.trans h3, h4, h5⟩
end Go.Proofs.YtcogcbplmkcojaaGreatDoor
namespace Go.Proofs.YtcogcbplmkcojaaGreatDoor
open Go.RowKit
set_option linter.unusedVariables false
set_option linter.unusedSimpArgs false
def lU (b n : Nat) : AV → Bool
 | .t _ => true
 | .ptr _ _ _ _ => true
 | .sl b' _ i m => !(Nat.beq b' b) || Nat.ble (i + m) n
 | .bj => true
 | .dc => true
 | _ => false
def nT (b n : Nat) : AV → Bool
 | .agg cs => cs.all (lU b n)
 | x => lU b n x
def Qm (b n : Nat) : Ψ → Bool
 | .box cs => cs.all (lU b n)
 | .arr _ _ _ _ (.ts _) => true
 | .arr _ _ _ _ (.vs l) => l.all (nT b n)
 | _ => true
def xG (b n : Nat) : Nat → AH → AH
 | _, [] => []
 | i, x :: r => (match Nat.beq i b with | true => (match x with | .arr e s z g (.vs l) => .arr e s z g (.vs (l.take n)) | x => x) | false => x) :: xG b n (i + 1) r
theorem vr (b n : Nat) : ∀ (H : AH) (i j : Nat), (xG b n i H)[j]? = H[j]?.map fun x => match Nat.beq (i + j) b with | true => (match x with | .arr e s z g (.vs l) => .arr e s z g (.vs (l.take n)) | x => x) | false => x
 | [], i, j => by simp [xG]
 | x :: r, i, 0 => rfl
 | x :: r, i, j + 1 => by
  have h := vr b n r (i + 1) j
  rw [show i + 1 + j = i + (j + 1) by omega] at h
  exact h
theorem Bd (b n : Nat) : ∀ (H : AH) (i : Nat), (xG b n i H).length = H.length
 | [], i => rfl
 | x :: r, i => congrArg (· + 1) (Bd b n r (i + 1))
theorem LL {w : World} {c : Cx} {H H' : AH} {b n : Nat} {e s : Nat} {z : Bool} {g : Nat} {l : List AV} (hb : H[b]? = some (.arr e s z g (.vs l))) (aC : H'[b]? = some (.arr e s z g (.vs (l.take n)))) (h1 : 1 ≤ n) (hn : n ≤ l.length)
 (ho : ∀ i, i ≠ b → H'[i]? = H[i]?) (hM : ∀ cb, c.M H' cb ↔ c.M H cb) {x : AV} {v : Value} (hx : lU b n x = true) (h : RA w c H x v) : RA w c H' x v := by
 have hlen : (l.take n).length = n := by rw [List.length_take]; omega
 cases h with
 | t x v h => exact .t _ _ (h.mono fun cb _ hm => ⟨rfl, fun k => hm ((hM cb).1 k)⟩)
 | ptr b1 g1 i o v ν kt h hv =>
  by_cases tn : b1 = b
  ·subst tn
   rw [hb] at kt
   cases kt
   exact .ptr _ _ _ _ _ _ aC h hv
  ·have iz : H'[b1]? = some ν := by rw [ho _ tn]; exact kt
   cases ν <;> exact .ptr _ _ _ _ _ _ iz h hv
 | sl b1 g1 i m v ν kt h hv =>
  by_cases tn : b1 = b
  ·subst tn
   rw [hb] at kt
   cases kt
   simp only [lU, Bool.or_eq_true, Bool.not_eq_true', Nat.ble_eq, Nat.beq_refl] at hx
   have hx : i + m ≤ n := by
    rcases hx with hx | hx
    ·cases hx
    ·exact hx
   refine .sl _ _ _ _ _ _ aC ⟨h.1, fun hg => ?_⟩ hv
   obtain ⟨k1, k2⟩ := h.2 hg
   refine ⟨by show i + m ≤ (l.take n).length; omega, ?_⟩
   have gz : l.length ≠ 0 := by omega
   rcases k2 with ⟨_, k, _⟩ | ⟨_, k, _⟩ | ⟨_, k⟩
   ·exact absurd k gz
   ·exact absurd k gz
   ·exact .inr (.inr ⟨fun k' => by have : (l.take n).length = 0 := k'.2; omega, k⟩)
  ·have iz : H'[b1]? = some ν := by rw [ho _ tn]; exact kt
   cases ν <;> exact .sl _ _ _ _ _ _ iz h hv
 | bj v => exact .bj _
 | dc ad => exact .dc _
 | agg cs vs hl h1 hr => simp [lU] at hx
 | ao cs vs hl hr => simp [lU] at hx
 | fn => simp [lU] at hx
 | bY => simp [lU] at hx
theorem zA {k0 : Nat} {env : List (Nat × AV)} {H : AH} (b n : Nat) {e s : Nat} {z : Bool} {g : Nat} {l : List AV} (hb : H[b]? = some (.arr e s z g (.vs l))) (hk : Nat.ble k0 b = true) (h1 : Nat.ble 1 n = true) (hn : Nat.ble n l.length = true) (hg : Nat.beq (g % 2) 0 = true)
 (he : env.all (fun p => nT b n p.2) = true) (hH : H.all (Qm b n) = true) : aX k0 ⟨env, H⟩ ⟨env, xG b n 0 H⟩ := by
 intro O c a w dk hs
 subst dk
 have hk := Nat.le_of_ble_eq_true hk
 have h1 := Nat.le_of_ble_eq_true h1
 have hn := Nat.le_of_ble_eq_true hn
 have hg := Nat.eq_of_beq_eq_true hg
 have Gv := ι hb
 obtain ⟨H', Kr⟩ : ∃ H', H' = xG b n 0 H := ⟨_, rfl⟩
 rw [← Kr]
 have aC : H'[b]? = some (.arr e s z g (.vs (l.take n))) := by rw [Kr, vr, Nat.zero_add, hb, Nat.beq_refl]; rfl
 have ho : ∀ i, i ≠ b → H'[i]? = H[i]? := fun i hi => by
  rw [Kr, vr, Nat.zero_add]
  have : Nat.beq i b = false := by
   cases h : Nat.beq i b
   ·rfl
   ·exact absurd (Nat.eq_of_beq_eq_true h) hi
  rw [this]
  cases H[i]? <;> rfl
 have hlen : H'.length = H.length := by rw [Kr]; exact Bd _ _ _ _
 have live : ∀ (i : Nat) (cb : Nat), (∃ ν, H'[i]? = some ν ∧ ν.live = true ∧ c.G i = some cb) ↔ (∃ ν, H[i]? = some ν ∧ ν.live = true ∧ c.G i = some cb) := fun i cb => by
  by_cases hi : i = b
  ·subst hi
   exact ⟨fun ⟨ν, _, _, k⟩ => ⟨_, hb, rfl, k⟩, fun ⟨ν, _, _, k⟩ => ⟨_, aC, rfl, k⟩⟩
  ·rw [ho i hi]
 have hM : ∀ cb, c.M H' cb ↔ c.M H cb := fun cb => by
  constructor
  ·rintro (hf | ⟨i, h⟩)
   ·exact .inl hf
   ·exact .inr ⟨i, (live i cb).1 h⟩
  ·rintro (hf | ⟨i, h⟩)
   ·exact .inl hf
   ·exact .inr ⟨i, (live i cb).2 h⟩
 have hO : ∀ cb, c.O H' cb ↔ c.O H cb := fun cb => ⟨fun ⟨i, h⟩ => ⟨i, (live i cb).1 h⟩, fun ⟨i, h⟩ => ⟨i, (live i cb).2 h⟩⟩
 have zV : ∀ {x : AV} {v : Value}, lU b n x = true → RA w c H x v → RA w c H' x v := fun hx h => LL hb aC h1 hn ho hM hx h
 have Qz : ∀ {x : AV} {v : Value}, nT b n x = true → RA w c H x v → RA w c H' x v := fun {x v} hx h => by
  cases h with
  | agg cs vs hl h1 hr => exact .agg _ _ hl h1 fun i y u hy hu => zV (List.all_eq_true.1 hx y (List.mem_of_getElem? hy)) (hr i y u hy hu)
  | t x v h => exact zV rfl (.t _ _ h)
  | ptr b1 g1 i o v ν kt h hv => exact zV rfl (.ptr _ _ _ _ _ ν kt h hv)
  | sl b1 g1 i m v ν kt h hv => exact zV hx (.sl _ _ _ _ _ ν kt h hv)
  | bj v => exact .bj _
  | dc ad => exact .dc _
  | ao cs vs hl hr => simp [nT, lU] at hx
  | fn => simp [nT, lU] at hx
  | bY => simp [nT, lU] at hx
 have wq : ∀ {x y : AV} {j : Nat}, nT b n x = true → x.cells[j]? = some y → lU b n y = true := fun {x y j} hx hy => by
  cases x with
  | agg cs => exact List.all_eq_true.1 hx y (List.mem_of_getElem? hy)
  | t x =>
   rw [T.dp] at hy
   simp only [List.getElem?_map, Option.map_eq_some_iff] at hy
   obtain ⟨_, _, rfl⟩ := hy
   rfl
  | _ => first
   | (cases j with
    | zero => cases hy; exact hx
    | succ j => cases hy)
 refine ⟨c, fun t => ?_, ?_, hs.size, hs.defers, ?_, hs.below⟩
 ·have h := hs.env t
  have Rj : nT b n (lk env t) = true := by
   have : ∀ env : List (Nat × AV), env.all (fun p => nT b n p.2) = true → nT b n (lk env t) = true := by
    intro env
    induction env with
    | nil => intro _; rfl
    | cons p r ih =>
     intro hp
     rw [List.all_cons, Bool.and_eq_true] at hp
     obtain ⟨d, v⟩ := p
     rw [e9]
     split
     ·exact hp.1
     ·exact ih hp.2
   exact this env he
  exact Qz Rj h
 ·refine ⟨hs.hs.inj, hs.hs.base, hs.hs.fb, hs.hs.hB, fun i cb cw => by rw [hlen]; exact hs.hs.jB i cb cw, fun i cb cells hi cw => ?_, fun i cb e1 s1 z1 g1 l1 hi cw => ?_, fun i cb s1 p hi cw => ?_⟩
  ·by_cases lO : i = b
   ·subst lO; rw [aC] at hi; cases hi
   ·rw [ho i lO] at hi
    obtain ⟨arr, e0, a1, a2, a3⟩ := hs.hs.box i cb cells hi cw
    refine ⟨arr, e0, a1, a2, fun j x v hx hv => ?_⟩
    obtain ⟨b1, b2, b3⟩ := a3 j x v hx hv
    have hB := List.all_eq_true.1 hH _ (List.mem_of_getElem? hi)
    exact ⟨b1, zV (List.all_eq_true.1 hB x (List.mem_of_getElem? hx)) b2, b3⟩
  ·by_cases lO : i = b
   ·subst lO
    rw [aC] at hi
    cases hi
    obtain ⟨arr, cap, a1, a2, a3, a4, a5⟩ := hs.hs.arr i cb e s z g _ hb cw
    refine ⟨arr, cap, a1, a2, ⟨by have : (Sq.vs (l.take n)).length = min n l.length := List.length_take; have := a3.1; simp only [Sq.length] at *; omega, fun h => by omega⟩, a4, fun k x hx => ?_⟩
    have hx : (l.take n)[k]? = some x := hx
    rw [List.getElem?_take] at hx
    split at hx
    ·obtain ⟨q1, q2⟩ := a5 k x hx
     refine ⟨q1, fun j y hj => ?_⟩
     obtain ⟨v, r1, r2, r3, r4⟩ := q2 j y hj
     have hB : l.all (nT i n) = true := List.all_eq_true.1 hH _ (List.mem_of_getElem? hb)
     exact ⟨v, r1, r2, zV (wq (List.all_eq_true.1 hB x (List.mem_of_getElem? hx)) hj) r3, r4⟩
    ·cases hx
   ·rw [ho i lO] at hi
    obtain ⟨arr, cap, a1, a2, a3, a4, a5⟩ := hs.hs.arr i cb e1 s1 z1 g1 l1 hi cw
    refine ⟨arr, cap, a1, a2, a3, a4, fun k x hx => ?_⟩
    obtain ⟨q1, q2⟩ := a5 k x hx
    refine ⟨q1, fun j y hj => ?_⟩
    obtain ⟨v, r1, r2, r3, r4⟩ := q2 j y hj
    have hB := List.all_eq_true.1 hH _ (List.mem_of_getElem? hi)
    refine ⟨v, r1, r2, zV ?_ r3, r4⟩
    cases l1 with
    | ts l1 =>
     simp only [Sq.get, Option.map_eq_some_iff] at hx
     obtain ⟨t, _, rfl⟩ := hx
     rw [T.dp] at hj
     simp only [List.getElem?_map, Option.map_eq_some_iff] at hj
     obtain ⟨_, _, rfl⟩ := hj
     rfl
    | vs l1 =>
     have hB : l1.all (nT b n) = true := hB
     have hx : l1[k]? = some x := hx
     exact wq (List.all_eq_true.1 hB x (List.mem_of_getElem? hx)) hj
  ·by_cases lO : i = b
   ·subst lO; rw [aC] at hi; cases hi
   ·rw [ho i lO] at hi
    exact hs.hs.iter i cb s1 p hi cw
 ·have ev := hs.ev
  refine ⟨ev.F, ev.size, fun i ν hi => ?_, fun cb hm => ev.qn cb ((hO cb).1 hm), ev.mem, ev.late⟩
  obtain ⟨az, k1, k2⟩ := ev.ν i ν hi
  have wm := ι hi
  exact ⟨az, by rw [ho i (by omega)]; exact k1, k2⟩
end Go.Proofs.YtcogcbplmkcojaaGreatDoor
