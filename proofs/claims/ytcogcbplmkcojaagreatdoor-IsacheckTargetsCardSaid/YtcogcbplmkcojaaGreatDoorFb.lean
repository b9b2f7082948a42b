/-
  The ground of the walks of this seat, part Fb.
-/
import Derived.Test.YtcogcbplmkcojaaGreatDoorFa
import Derived.Tactics
import Derived.Orders
import Derived.Laws.Externs
import Derived.WalkKit
import Derived.ProofKit
import Derived.OpenShut
import Derived.ShutString
import Derived.Below
import Derived.Carry
import Derived.ChangeArms
import Derived.ChangeBears
import Derived.ChangeSlices
import Derived.Handed
namespace Go.Proofs.YtcogcbplmkcojaaGreatDoor
open Go.RowKit
set_option linter.unusedVariables false
set_option linter.unusedSimpArgs false
def fS (n : Nat) : AV → AV × List Ψ
 | .own e s z l => (.sl n 0 0 l.length, [.arr e s z 0 (.ts l)])
 | x => (x, [])
def gf (n : Nat) : List AV → List AV × List Ψ
 | [] => ([], [])
 | x :: r => ((fS n x).1 :: (gf (n + (fS n x).2.length) r).1, (fS n x).2 ++ (gf (n + (fS n x).2.length) r).2)
def ed (n : Nat) : AV → AV × List Ψ
 | .agg cs => (.agg (gf n cs).1, (gf n cs).2)
 | x => fS n x
def dg (n : Nat) : List AV → List AV × List Ψ
 | [] => ([], [])
 | x :: r => ((ed n x).1 :: (dg (n + (ed n x).2.length) r).1, (ed n x).2 ++ (dg (n + (ed n x).2.length) r).2)
def imp (n : Nat) : AV → AV × List Ψ
 | .ao vs => (.ao (dg n vs).1, (dg n vs).2)
 | x => ed n x
def sQ : AV → Bool
 | .t _ => true
 | .own _ _ _ _ => true
 | .dc => true
 | .bj => true
 | _ => false
def oS : AV → Bool
 | .agg cs => cs.all sQ
 | x => sQ x
def aL : AV → Bool
 | .ao vs => vs.all oS
 | x => oS x
inductive GE (n : Nat) : AV → Prop
 | t (x) : GE n (.t x)
 | ptr (b g i o) (h : n ≤ b) : GE n (.ptr b g i o)
 | sl (b g i l) (h : n ≤ b) : GE n (.sl b g i l)
 | agg (cs) (h : ∀ (i : Nat) x, cs[i]? = some x → GE n x) : GE n (.agg cs)
 | ao (cs) (h : ∀ (i : Nat) x, cs[i]? = some x → GE n x) : GE n (.ao cs)
 | fn (f a b) (ha : ∀ (i : Nat) x, a[i]? = some x → GE n x) (hb : ∀ (i : Nat) x, b[i]? = some x → GE n x) : GE n (.fn f a b)
 | bY (t x) (h : GE n x) : GE n (.bY t x)
 | dc : GE n .dc
 | bj : GE n .bj
theorem GE.le {n m : Nat} (Ga : m ≤ n) {x : AV} (h : GE n x) : GE m x := by
 induction h with
 | t x => exact .t x
 | ptr b g i o h => exact .ptr b g i o (by omega)
 | sl b g i l h => exact .sl b g i l (by omega)
 | agg cs _ ih => exact .agg cs ih
 | ao cs _ ih => exact .ao cs ih
 | fn f a b _ _ lG lF => exact .fn f a b lG lF
 | bY t x _ ih => exact .bY t x ih
 | dc => exact .dc
 | bj => exact .bj
theorem Ch {n : Nat} {x : AV} (h : sQ x = true) : GE n (fS n x).1 := by
 cases x <;> simp [sQ] at h
 ·exact .t _
 ·exact .sl _ _ _ _ (Nat.le_refl _)
 ·exact .dc
 ·exact .bj
theorem Cd {n : Nat} : ∀ {l : List AV} {n : Nat}, l.all sQ = true → ∀ (i : Nat) x, (gf n l).1[i]? = some x → GE n x
 | [], n, _, i, x, hi => by simp [gf] at hi
 | a :: r, n, h, i, x, hi => by
  simp only [List.all_cons, Bool.and_eq_true] at h
  simp only [gf] at hi
  cases i with
  | zero => simp at hi; subst hi; exact Ch h.1
  | succ i => simp at hi; exact (Cd (n := n) h.2 i x hi).le (Nat.le_add_right _ _)
theorem Cf {n : Nat} {x : AV} (h : oS x = true) : GE n (ed n x).1 := by
 unfold oS at h
 split at h
 ·exact .agg _ (Cd (n := n) h)
 ·rename_i aw
  have : ed n x = fS n x := by cases x <;> first | rfl | (exact (aw _ rfl).elim)
  rw [this]; exact Ch h
theorem Av {n : Nat} : ∀ {l : List AV} {n : Nat}, l.all oS = true → ∀ (i : Nat) x, (dg n l).1[i]? = some x → GE n x
 | [], n, _, i, x, hi => by simp [dg] at hi
 | a :: r, n, h, i, x, hi => by
  simp only [List.all_cons, Bool.and_eq_true] at h
  simp only [dg] at hi
  cases i with
  | zero => simp at hi; subst hi; exact Cf h.1
  | succ i => simp at hi; exact (Av (n := n) h.2 i x hi).le (Nat.le_add_right _ _)
theorem F0 {n : Nat} {x : AV} (h : aL x = true) : GE n (imp n x).1 := by
 unfold aL at h
 split at h
 ·exact .ao _ (Av (n := n) h)
 ·rename_i aw
  have : imp n x = ed n x := by cases x <;> first | rfl | (exact (aw _ rfl).elim)
  rw [this]; exact Cf h
def Ψ.nQ : Ψ → Bool
 | .arr _ _ _ _ (.ts _) => true
 | _ => false
theorem Ax (n : Nat) (x : AV) : (fS n x).2.all Ψ.nQ = true := by cases x <;> rfl
theorem As : ∀ (l : List AV) (n : Nat), (gf n l).2.all Ψ.nQ = true
 | [], n => rfl
 | a :: r, n => by simp only [gf, List.all_append, Ax, As r, Bool.and_self]
theorem Aw (n : Nat) (x : AV) : (ed n x).2.all Ψ.nQ = true := by
 cases x <;> first | exact As _ _ | exact Ax _ _
theorem yp : ∀ (l : List AV) (n : Nat), (dg n l).2.all Ψ.nQ = true
 | [], n => rfl
 | a :: r, n => by simp only [dg, List.all_append, Aw, yp r, Bool.and_self]
theorem la (n : Nat) (x : AV) : (imp n x).2.all Ψ.nQ = true := by
 cases x <;> first | exact yp _ _ | exact Aw _ _
theorem RA.shift {w : World} {c1 c2 : Cx} {H1 H2 : AH} {n : Nat} (hM : ∀ cb, ¬ c1.M H1 cb → ¬ c2.M H2 cb) (hH : ∀ b, n ≤ b → H1[b]? = H2[b]?) (hG : ∀ b, n ≤ b → c1.G b = c2.G b)
 {x : AV} {v : Value} (h : RA w c1 H1 x v) (hx : GE n x) : RA w c2 H2 x v := by
 induction h with
 | t x v h => exact .t x v (h.mono fun b _ hb => ⟨rfl, hM b hb⟩)
 | ptr b g i o v ν hb hm hv =>
  cases hx with | ptr _ _ _ _ hn =>
  refine .ptr b g i o v ν (by rw [← hH b hn]; exact hb) ?_ hv
  cases ν with
  | dead => trivial
  | box => rw [← hG b hn]; exact hm
  | iter => rw [← hG b hn]; exact hm
  | arr => rw [← hG b hn]; exact hm
 | sl b g i len v ν hb hm hv =>
  cases hx with | sl _ _ _ _ hn =>
  refine .sl b g i len v ν (by rw [← hH b hn]; exact hb) ?_ hv
  cases ν with
  | dead => trivial
  | box => exact hm
  | iter => exact hm
  | arr => rw [← hG b hn]; exact hm
 | agg cs vs hl h1 _ ih => cases hx with | agg _ hx => exact .agg cs vs hl h1 fun i x v hi hv => ih i x v hi hv (hx i x hi)
 | ao cs vs hl _ ih => cases hx with | ao _ hx => exact .ao cs vs hl fun i x v hi hv => ih i x v hi hv (hx i x hi)
 | fn f a b p q ha hb _ _ lG lF => cases hx with | fn _ _ _ h1 h2 => exact .fn f a b p q ha hb (fun i x v hi hv => lG i x v hi hv (h1 i x hi)) (fun i x v hi hv => lF i x v hi hv (h2 i x hi))
 | bY t x v _ ih => cases hx with | bY _ _ hx => exact .bY t x v (ih hx)
 | dc ad => exact .dc ad
 | bj v => exact .bj v
def lQ : T → Bool
 | .bool _ => true
 | .int _ _ => true
 | .str _ => true
 | .ju => true
 | .av => true
 | .kQ => true
 | .kP => true
 | _ => false
def gS : T → Bool
 | .agg cs => cs.all lQ
 | x => lQ x
theorem rT {w w' : World} {M M' : Nat → Prop} {x : T} {v : Value} (h : RT w M x v) (hf : lQ x = true) : RT w' M' x v := by
 cases h <;> first | (simp [lQ] at hf; done) | constructor
theorem Jq {w w' : World} {M M' : Nat → Prop} {x : T} {v : Value} (h : RT w M x v) (hf : gS x = true) : RT w' M' x v := by
 cases h with
 | agg cs vs hl h1 hr =>
  simp only [gS, List.all_eq_true] at hf
  exact .agg cs vs hl h1 fun i c v hi hv => rT (hr i c v hi hv) (hf c (List.mem_of_getElem? hi))
 | bool => exact .bool _
 | int => exact .int _ _
 | str => exact .str _
 | ju => exact .ju
 | av => exact .av
 | kQ => exact .kQ
 | kP => exact .kP
 | cO => simp [gS, lQ] at hf
 | vec => simp [gS, lQ] at hf
 | fn => simp [gS, lQ] at hf
 | bY => simp [gS, lQ] at hf
 | kA => simp [gS, lQ] at hf
 | κ => simp [gS, lQ] at hf
theorem qt {x : T} (hf : gS x = true) : ∀ (j : Nat) y, x.cells[j]? = some y → lQ y = true := by
 intro j y hj
 cases x with
 | agg cs => simp only [gS, List.all_eq_true] at hf; exact hf y (List.mem_of_getElem? hj)
 | _ => cases j <;> simp [T.cells] at hj <;> subst hj <;> exact hf
def D_ : AV → Prop
 | .t x => gS x = true
 | .own _ _ _ l => ∀ x ∈ l, gS x = true
 | .bj => True
 | _ => False
def zi : List AV → Prop
 | [] => True
 | x :: r => D_ x ∧ zi r
def D9 : AV → Prop
 | .agg cs => zi cs
 | x => D_ x
def wW : List AV → Prop
 | [] => True
 | x :: r => D9 x ∧ wW r
def Flat : AV → Prop
 | .ao vs => wW vs
 | x => D9 x
def Bv (P : Program) (f : FuncId) : Prop := ∃ fn, P.funcs[f]? = some fn ∧ fn.body.isSome = true ∧ (fn.name == "runtime.NumGoroutine") = false
def xO (P : Program) (f : FuncId) (vs : Array Value) (w : World) (Q : Ending → World → Prop) : Prop :=
 (Bv P f ∧ Calls P f vs w Q) ∨ ∃ v w', (callFunc f vs).run P w = .ok (.value v) w' ∧ Q (.returned v) w'
theorem xO.mono {P : Program} {f : FuncId} {vs : Array Value} {w : World} {Q Q' : Ending → World → Prop} (h : xO P f vs w Q) (hq : ∀ e w', Q e w' → Q' e w') : xO P f vs w Q' :=
 h.imp (fun h => ⟨h.1, h.2.mono hq⟩) fun ⟨v, w', h1, h2⟩ => ⟨v, w', h1, hq _ _ h2⟩
def φ (P : Program) (f : FuncId) (ts : List T) (r : AV) : Prop :=
 aL r = true ∧ ∀ (n : Nat) (F : Nat → Prop) (w : World) (vs : Array Value), (∀ cb, F cb → cb < w.heap.size) → vs.size = ts.length →
  (∀ (i : Nat) t v, ts[i]? = some t → vs[i]? = some v → RT w F t v) →
  xO P f vs w fun e w' => ∃ v G, e = .returned v ∧ Below w.heap.size w w' ∧ (∀ b cb, G b = some cb → n ≤ b) ∧
   RA w' ⟨F, G⟩ (List.replicate n .dead ++ (imp n r).2) (imp n r).1 v ∧ HS w' ⟨F, G⟩ (List.replicate n .dead ++ (imp n r).2) w.heap.size
def γ (P : Program) : jE := fun f args H Q =>
 ∀ (B : Nat) (c : Cx) (w : World) (vs : Array Value), HS w c H B → vs.size = args.length → (∀ (i : Nat) a v, args[i]? = some a → vs[i]? = some v → RA w c H a v) →
  xO P f vs w fun e w' => ∃ v c' r H', e = .returned v ∧ RA w' c' H' r v ∧ HS w' c' H' B ∧ Ev w c H w' c' H' ∧ Below B w w' ∧ Q r H'
theorem γ.mono {P : Program} {f : FuncId} {args : List AV} {H : AH} {Q Q' : AV → AH → Prop} (h : γ P f args H Q) (hq : ∀ r H', Q r H' → Q' r H') : γ P f args H Q' :=
 fun B c w vs a b d => (h B c w vs a b d).mono fun e w' ⟨v, c', r, H', h1, h2, h3, h4, h5, h6⟩ => ⟨v, c', r, H', h1, h2, h3, h4, h5, hq _ _ h6⟩
theorem kV {n : Nat} {Hb : List Ψ} {b : Nat} {H : AH} (hn : H.length = n) (h : n ≤ b) : (List.replicate n Ψ.dead ++ Hb)[b]? = (H ++ Hb)[b]? := by
 rw [List.getElem?_append_right (by simpa using h), List.getElem?_append_right (by omega)]
 simp [hn]
theorem LF {n : Nat} {Hb : List Ψ} {b : Nat} {ν : Ψ} (h : b < n) (hb : (List.replicate n Ψ.dead ++ Hb)[b]? = some ν) : ν = .dead := by
 rw [List.getElem?_append_left (by simpa using h)] at hb
 simp [h] at hb
 exact hb.symm
theorem join {w w' : World} {c : Cx} {H Hb : AH} {B : Nat} {F : Nat → Prop} {G : Nat → Option Nat} (hs : HS w c H B) (dD : Below w.heap.size w w') (hG : ∀ b cb, G b = some cb → H.length ≤ b)
 (aF : HS w' ⟨F, G⟩ (List.replicate H.length .dead ++ Hb) w.heap.size) (fe : Hb.all Ψ.nQ = true)
 (iu : ∀ (b e s : Nat) (z : Bool) (g : Nat) (l : List T) (i : Nat) (x : T) (j : Nat) (y : T) (v : Value), Hb[b]? = some (Ψ.arr e s z g (.ts l)) → l[i]? = some x → x.cells[j]? = some y →
  RT w' ((Cx.mk F G).M (List.replicate H.length .dead ++ Hb)) y v → RT w' ((Cx.mk c.F fun b => if b < H.length then c.G b else G b).M (H ++ Hb)) y v) :
 Ev w c H w' ⟨c.F, fun b => if b < H.length then c.G b else G b⟩ (H ++ Hb) ∧ HS w' ⟨c.F, fun b => if b < H.length then c.G b else G b⟩ (H ++ Hb) B := by
 have ev : Ev w c H w' ⟨c.F, fun b => if b < H.length then c.G b else G b⟩ (H ++ Hb) := by
  refine ⟨rfl, dD.size, fun b ν hb => ⟨ν, by rw [List.getElem?_append_left (ι hb)]; exact hb, ?_⟩, fun cb hm => ?_, fun cb χ _ => dD.block cb χ,
   fun b bk hb _ hg => by simp only [if_pos (ι hb)]; exact hg⟩
  ·have χ := ι hb
   cases ν with
   | dead => trivial
   | box cs => exact ⟨rfl, fun cb hc => by simp only [if_pos χ]; exact hc⟩
   | iter s p => exact ⟨rfl, fun cb hc => by simp only [if_pos χ]; exact hc⟩
   | arr e s z g l =>
    refine ⟨rfl, rfl, rfl, Nat.le_refl _, Nat.le_refl _, fun _ => ⟨rfl, fun cb hc => ⟨by simp only [if_pos χ]; exact hc, ?_⟩⟩⟩
    unfold dI
    rw [dD.block cb (hs.base b cb hc).2]
  ·rcases hm with ⟨b, ν, hb, hl, hg⟩
   ·simp only at hg
    split at hg
    ·rename_i χ
     rw [List.getElem?_append_left χ] at hb
     exact .inl ⟨b, ν, hb, hl, hg⟩
    ·exact .inr (aF.base b cb hg).1
 have hB : B ≤ w.heap.size := hs.hB
 refine ⟨ev, hs.aM ev (fun b b' cb h h' => ?_) (fun b cb h => ?_) (fun b cb h => ?_) (fun b cb cs hb hg => ?_) (fun b cb e s z g l hb hg => ?_) (fun b cb s p hb hg => ?_) (fun b cb h => by
  simp only at h
  split at h
  ·exact .inl ⟨b, h⟩
  ·exact .inr (aF.base b cb h).1)⟩
 ·simp only at h h'
  split at h <;> split at h'
  ·exact hs.inj b b' cb h h'
  ·have := (hs.base b cb h).2; have := (aF.base b' cb h').1; omega
  ·have := (hs.base b' cb h').2; have := (aF.base b cb h).1; omega
  ·exact aF.inj b b' cb h h'
 ·simp only at h
  split at h
  ·have := hs.base b cb h; exact ⟨this.1, by have := dD.size; omega⟩
  ·have := aF.base b cb h; exact ⟨by omega, this.2⟩
 ·simp only at h
  split at h
  ·simp; omega
  ·have := aF.jB b cb h; simp at this ⊢; omega
 ·simp only at hg
  split at hg
  ·rename_i χ
   rw [List.getElem?_append_left χ] at hb
   exact .inl ⟨hb, hg, dD.block cb (hs.base b cb hg).2⟩
  ·rename_i eE
   rw [List.getElem?_append_right (by omega)] at hb
   rw [List.all_eq_true] at fe
   have := fe _ (List.mem_of_getElem? hb)
   simp [Ψ.nQ] at this
 ·simp only at hg
  split at hg
  ·rename_i χ
   rw [List.getElem?_append_left χ] at hb
   exact .inl ⟨hb, hg, dD.block cb (hs.base b cb hg).2⟩
  ·rename_i eE
   have aC := hb
   rw [List.getElem?_append_right (by omega)] at aC
   rw [← kV (H := H) rfl (by omega)] at hb
   obtain ⟨arr, cap, h1, h2, h3, h4, h5⟩ := aF.arr b cb e s z g l hb hg
   rw [List.all_eq_true] at fe
   have pe := fe _ (List.mem_of_getElem? aC)
   cases l with
   | vs l => simp [Ψ.nQ] at pe
   | ts l =>
    refine .inr ⟨arr, cap, h1, h2, h3, h4, dh.ts.2 fun i x hi => ⟨(dh.ts.1 h5 i x hi).1, fun j y hj => ?_⟩⟩
    obtain ⟨v, k1, k2, k3, k4⟩ := (dh.ts.1 h5 i x hi).2 j y hj
    exact ⟨v, k1, k2, iu _ e s z g l i x j y v aC hi hj k3, k4⟩
 ·simp only at hg
  split at hg
  ·rename_i χ
   rw [List.getElem?_append_left χ] at hb
   exact .inl ⟨hb, hg, dD.block cb (hs.base b cb hg).2⟩
  ·rename_i eE
   rw [List.getElem?_append_right (by omega)] at hb
   rw [List.all_eq_true] at fe
   have := fe _ (List.mem_of_getElem? hb)
   simp [Ψ.nQ] at this
theorem v8 {c : Cx} {H Hb : AH} {F : Nat → Prop} {G : Nat → Option Nat} {cb : Nat} (hF : ∀ cb, c.M H cb → F cb) (h : ¬ (Cx.mk F G).M (List.replicate H.length .dead ++ Hb) cb) :
 ¬ (Cx.mk c.F fun b => if b < H.length then c.G b else G b).M (H ++ Hb) cb := by
 rintro (hf | ⟨b, ν, hb, hl, hg⟩)
 ·exact h (.inl (hF cb (.inl hf)))
 ·simp only at hg
  split at hg
  ·rename_i χ
   rw [List.getElem?_append_left χ] at hb
   exact h (.inl (hF cb (.inr ⟨b, ν, hb, hl, hg⟩)))
  ·exact h (.inr ⟨b, ν, by rw [kV (H := H) rfl (by omega)]; exact hb, hl, hg⟩)
theorem Og {w c H B} (hs : HS w c H B) {cb : Nat} (h : c.M H cb) : cb < w.heap.size := by
 rcases h with hf | ⟨b, ν, _, _, hg⟩
 ·exact (hs.fb cb hf).1
 ·exact (hs.base b cb hg).2
theorem γ.pure {P : Program} {f : FuncId} {args : List AV} {ts : List T} {r : AV} {H : AH} {Q : AV → AH → Prop} (h : φ P f ts r) (ha : ic args = some ts) (k : Q (imp H.length r).1 (H ++ (imp H.length r).2)) :
 γ P f args H Q := by
 intro B c w vs hs hl hr
 have pe := jG ha
 refine (h.2 H.length (c.M H) w vs (fun cb qQ => Og hs qQ) (by rw [hl, pe]; simp) (fun i t v hi hv => ?_)).mono fun e w' ⟨v, G, he, dD, hG, cY, aF⟩ => ?_
 ·have := hr i (.t t) v (by rw [pe]; simp [hi]) hv
  cases this with | t _ _ h => exact h
 ·obtain ⟨ev, fa⟩ := join (Hb := (imp H.length r).2) hs dD hG aF (la _ _) (fun b e s z g l i x j y v hb hi hj iu => iu.mono fun cb _ qQ => ⟨rfl, v8 (fun _ h => h) qQ⟩)
  refine ⟨v, _, _, _, he, ?_, fa, ev, ?_, k⟩
  ·exact cY.shift (n := H.length) (fun cb qQ => v8 (fun _ h => h) qQ) (fun b hb => kV rfl hb) (fun b hb => by simp only [if_neg (Nat.not_lt.2 hb)]) (F0 h.1)
  ·exact dD.mono hs.hB
end Go.Proofs.YtcogcbplmkcojaaGreatDoor
namespace Go.Proofs.YtcogcbplmkcojaaGreatDoor
open Go.RowKit
set_option linter.unusedVariables false
set_option linter.unusedSimpArgs false
theorem RA.rt {w : World} {c : Cx} {H : AH} {x : T} {v : Value} (h : RA w c H (.t x) v) : RT w (c.M H) x v := by cases h with | t _ _ h => exact h
section
variable {P : Program} {tab : a9}
theorem bc {w : World} {c : Cx} {H : AH} {env : List (Nat × AV)} {a : Act} (he : ∀ t, RA w c H (lk env t) (a.tmps.getD t undef)) (x : Operand) : RA w c H (aI env x) (a.eval x) := by
 cases x with
 | tmp t => exact he t
 | const v => exact IK v
 | global g => exact .bj _
 | func f => exact .t _ _ (.fn (.func f) [] [] #[] #[] rfl rfl (by simp) (by simp))
theorem xv {w : World} {c : Cx} {H : AH} {env : List (Nat × AV)} {a : Act} (he : ∀ t, RA w c H (lk env t) (a.tmps.getD t undef)) (l : List Operand) :
 ∀ (i : Nat) x v, (l.map (aI env))[i]? = some x → (l.map a.eval)[i]? = some v → RA w c H x v := by
 intro i x v hi hv
 simp only [List.getElem?_map, Option.map_eq_some_iff] at hi hv
 obtain ⟨o, ho, rfl⟩ := hi
 obtain ⟨o', iJ, rfl⟩ := hv
 rw [ho] at iJ; cases iJ
 exact bc he o
theorem u7 {w : World} {c : Cx} {H : AH} {env : List (Nat × AV)} {a : Act} (he : ∀ t, RA w c H (lk env t) (a.tmps.getD t undef)) (l : List (Nat × Operand)) :
 jV w c H (l.map fun p => (p.1, aI env p.2)) (l.map fun p => (p.1, a.eval p.2)) := by
 induction l with
 | nil => exact .nil
 | cons p r ih => exact .cons _ _ _ _ _ (bc he p.2) ih
def Bs (P : Program) (o : Oper) (a : Act) (w : World) (c : Cx) (H : AH) (B : Nat) (K : AV → AH → Prop) (next : Act → World → Prop) : Prop :=
 ∀ v val w' c' H', RA w' c' H' v val → HS w' c' H' B → Ev w c H w' c' H' → Below B w w' → K v H' → next (a.put o.dst val) w'
theorem fN {o : Oper} {a : Act} {w : World} {c : Cx} {H : AH} {B : Nat} {K : AV → AH → Prop} {next : Act → World → Prop} {Q : Exit → Act → World → Prop} (hK : Bs P o a w c H B K next) {m : Sem Value}
 (fU : execOp a.eval o = (do pure (.value (← m)))) (h : iE P m w c H B K) : o.wp P a w next Q := by
 obtain ⟨v, val, w', c', H', h1, h2, h3, h4, h5, h6⟩ := h
 unfold Oper.wp
 rw [fU]
 simp only [Sem.run_bind, h1, Result.andThen_ok, Sem.run_pure, Oper.upon_value]
 exact hK v val w' c' H' h2 h3 h4 h5 h6
theorem dG {o : Oper} {a : Act} {w : World} {c : Cx} {H : AH} {B : Nat} {K : AV → AH → Prop} {next : Act → World → Prop} {Q : Exit → Act → World → Prop} (hK : Bs P o a w c H B K next) (hs : HS w c H B) {m : Sem Value}
 (fU : execOp a.eval o = (do pure (.value (← m)))) {x : AV} {val : Value} (h1 : m.run P w = .ok val w) (h2 : RA w c H x val) (h3 : K x H) : o.wp P a w next Q :=
 fN hK fU (.here hs h1 h2 h3)
theorem KR (hT : bi P tab) {op : BinOp} {ty : TypeId} {w c H x y u v} {K : T → Prop} {xo yo : Operand} (h : rf tab op ty H x y (isConst yo) K) (hx : RA w c H x u) (hy : RA w c H y v) :
 ∃ z val, (do eqGuard op ty xo yo u v; binOp op ty u v).run P w = .ok val w ∧ (∀ w M, RT w M z val) ∧ K z := by
 unfold rf at h
 split at h
 ·obtain rfl := hx.int
  obtain rfl := hy.int
  obtain ⟨z, val, h1, h2, h3⟩ := KO (P := P) (w := w) h ty
  exact ⟨z, val, by rw [eqGuard_at_int]; simpa using h1, h2, h3⟩
 ·obtain ⟨s, rfl, hs⟩ := hx.str
  obtain ⟨s', rfl, aF⟩ := hy.str
  obtain ⟨z, val, h1, h2, h3⟩ := KK (P := P) (w := w) h ty s s' hs aF
  exact ⟨z, val, by rw [eqGuard_at_string]; simpa using h1, h2, h3⟩
 ·split at h
  ·obtain ⟨p, h1, h2, h3, h4⟩ := Ek (P := P) hT h hx.iR hy.iR xo yo rfl
   exact ⟨_, _, by simp only [Sem.run_bind, h1, Result.andThen_ok, h2], fun _ _ => .bool _, h4⟩
  ·obtain ⟨p, h1, h2, h3, h4⟩ := Ek (P := P) hT h hx.iR hy.iR xo yo rfl
   exact ⟨_, _, by simp only [Sem.run_bind, h1, Result.andThen_ok, h3], fun _ _ => .bool _, h4⟩
  ·exact h.elim
theorem sE {f : FuncId} (h : Bv P f) (args : Array Value) (w : World) : (callFunc f args).run P w = .ok (.enter f args) w := by
 obtain ⟨fn, h1, h2, h3⟩ := h
 simp only [callFunc, Sem.run_bind, run_program, Result.andThen_ok, h1]
 have hb : fn.body.isNone = false := by cases hb : fn.body <;> simp [hb] at h2 ⊢
 simp [h3, hb]
theorem zy {o : Oper} {a : Act} {w : World} {c : Cx} {H : AH} {B : Nat} {K : AV → AH → Prop} {next : Act → World → Prop} {Q : Exit → Act → World → Prop} (hK : Bs P o a w c H B K next) (hs : HS w c H B)
 {f : FuncId} {vs : Array Value} (fU : (execOp a.eval o).run P w = (callFunc f vs).run P w) {args : List AV} (h : γ P f args H K) (hl : vs.size = args.length)
 (hr : ∀ (i : Nat) x v, args[i]? = some x → vs[i]? = some v → RA w c H x v) : o.wp P a w next Q := by
 unfold Oper.wp
 rw [fU]
 rcases h B c w vs hs hl hr with ⟨Np, h⟩ | ⟨v, w', h, v', c', r, H', he, h1, h2, h3, h4, h5⟩
 ·rw [sE Np, Oper.upon_enter]
  refine h.mono fun e w' ⟨v, c', r, H', he, h1, h2, h3, h4, h5⟩ => ?_
  subst he
  exact hK r v w' c' H' h1 h2 h3 h4 h5
 ·rw [h, Oper.upon_value]
  cases he
  exact hK r v w' c' H' h1 h2 h3 h4 h5
theorem ym {w c H} {A1 A2 A3 : List AV} {v1 v2 v3 : Array Value} (l1 : A1.length = v1.size) (l2 : A2.length = v2.size) (l3 : A3.length = v3.size)
 (h1 : ∀ (i : Nat) x v, A1[i]? = some x → v1[i]? = some v → RA w c H x v) (h2 : ∀ (i : Nat) x v, A2[i]? = some x → v2[i]? = some v → RA w c H x v) (h3 : ∀ (i : Nat) x v, A3[i]? = some x → v3[i]? = some v → RA w c H x v) :
 (v1 ++ v2 ++ v3).size = (A1 ++ (A2 ++ A3)).length ∧ ∀ (i : Nat) x v, (A1 ++ (A2 ++ A3))[i]? = some x → (v1 ++ v2 ++ v3)[i]? = some v → RA w c H x v := by
 refine ⟨by simp; omega, fun i x v hi hv => ?_⟩
 by_cases a1 : i < A1.length
 ·rw [List.getElem?_append_left a1] at hi
  rw [Array.getElem?_append_left (by simp; omega), Array.getElem?_append_left (by omega)] at hv
  exact h1 i x v hi hv
 ·rw [List.getElem?_append_right (by omega)] at hi
  by_cases a2 : i - A1.length < A2.length
  ·rw [List.getElem?_append_left a2] at hi
   rw [Array.getElem?_append_left (by simp; omega), Array.getElem?_append_right (by omega)] at hv
   exact h2 _ x v hi (by rw [← l1] at hv; exact hv)
  ·rw [List.getElem?_append_right (by omega)] at hi
   rw [Array.getElem?_append_right (by simp; omega)] at hv
   refine h3 _ x v hi ?_
   rw [Array.size_append, ← l1, ← l2] at hv
   rw [show i - A1.length - A2.length = i - (A1.length + A2.length) by omega]
   exact hv
theorem ov {w c H} {l : List T} {vs : Array Value} (hr : ∀ (i : Nat) x v, l[i]? = some x → vs[i]? = some v → RT w (c.M H) x v) : ∀ (i : Nat) x v, (l.map AV.t)[i]? = some x → vs[i]? = some v → RA w c H x v := by
 intro i x v hi hv
 simp only [List.getElem?_map, Option.map_eq_some_iff] at hi
 obtain ⟨y, hy, rfl⟩ := hi
 exact .t _ _ (hr i y v hy hv)
theorem HL (hT : bi P tab) {o : Oper} {cl : Call} (ho : o.op = .call cl) {env : List (Nat × AV)} {H : AH} {K : AV → AH → Prop} (h : vx tab (γ P) cl o.type env H K) {a : Act} {w : World} {c : Cx} {B : Nat} (hs : HS w c H B)
 (he : ∀ t, RA w c H (lk env t) (a.tmps.getD t undef)) {next : Act → World → Prop} {Q : Exit → Act → World → Prop} (hK : Bs P o a w c H B K next) : o.wp P a w next Q := by
 have hx : execOp a.eval o = (do let d ← resolve a.eval cl o.type; invoke d.target d.args) := by unfold execOp; rw [ho]
 unfold vx at h
 split at h
 ·rename_i b qQ
  obtain ⟨cs, fx⟩ : ∃ cs, execOp a.eval o = builtin b cl.argTypes o.type cs (cl.args.map a.eval) := by
   rw [hx]; simp only [resolve, qQ, pure_bind, invoke]
   exact ⟨_, rfl⟩
  split at h
  ·rename_i t x h1 h2
   have e1 : cl.argTypes = #[t] := by rw [← Array.toArray_toList (xs := cl.argTypes), h1]
   have e2 : cl.args.map a.eval = #[a.eval x] := by rw [← Array.toArray_toList (xs := cl.args), h2]; simp
   rw [e1, e2] at fx
   obtain ⟨y, val, r, ra, k⟩ := KM (P := P) hT h (bc he x) o.type
   exact dG hK hs (m := Builtin.len_ #[t] o.type #[a.eval x]) (by rw [fx]; rfl) r ra k
  ·rename_i t u x y h1 h2
   have e1 : cl.argTypes = #[t, u] := by rw [← Array.toArray_toList (xs := cl.argTypes), h1]
   have e2 : cl.args.map a.eval = #[a.eval x, a.eval y] := by rw [← Array.toArray_toList (xs := cl.args), h2]; simp
   rw [e1, e2] at fx
   rw [Γ] at h
   obtain ⟨z, hz, h⟩ := h
   split at h
   ·rename_i hc
    have hu : ∃ k, P.underlying u = some (.int k) := by
     have hd := (hT u z hz).d
     cases QQ : z.d <;> rw [QQ] at hc hd <;> first | exact ⟨_, hd⟩ | (simp [Ap] at hc)
    obtain ⟨k, hu⟩ := hu
    exact fN hK (m := Builtin.append_ #[t, u] o.type #[a.eval x, a.eval y]) (by rw [fx]; rfl) (BA hT hs (bc he x) (bc he y) hu h o.type)
   ·rename_i hc
    have hu : ∃ d, P.underlying u = some d ∧ ∀ k, d ≠ .int k := ⟨z.d, (hT u z hz).d, fun k hk => by rw [hk] at hc; simp [Ap] at hc⟩
    exact fN hK (m := Builtin.append_ #[t, u] o.type #[a.eval x, a.eval y]) (by rw [fx]; rfl) (CS hT hs (bc he x) (bc he y) hu h o.type)
  ·rename_i t x h1 h2
   have e1 : cl.argTypes = #[t] := by rw [← Array.toArray_toList (xs := cl.argTypes), h1]
   have e2 : cl.args.map a.eval = #[a.eval x] := by rw [← Array.toArray_toList (xs := cl.args), h2]; simp
   rw [e1, e2] at fx
   obtain ⟨y, val, r, ra, k⟩ := KP (P := P) hT hs h (bc he x) o.type
   exact dG hK hs (m := Builtin.cap_ #[t] o.type #[a.eval x]) (by rw [fx]; rfl) r ra k
  ·rename_i t u x y h1 h2
   have e1 : cl.argTypes = #[t, u] := by rw [← Array.toArray_toList (xs := cl.argTypes), h1]
   have e2 : cl.args.map a.eval = #[a.eval x, a.eval y] := by rw [← Array.toArray_toList (xs := cl.args), h2]; simp
   rw [e1, e2] at fx
   exact fN hK (m := Builtin.copy_ #[t, u] o.type #[a.eval x, a.eval y]) (by rw [fx]; rfl) (HI hT hs (bc he x) (bc he y) h o.type)
  ·rename_i x y h2
   have e2 : cl.args.map a.eval = #[a.eval x, a.eval y] := by rw [← Array.toArray_toList (xs := cl.args), h2]; simp
   rw [e2] at fx
   obtain ⟨z, val, r, ra, k⟩ := vv (P := P) h (bc he x) (bc he y) cl.argTypes o.type
   exact dG hK hs (m := Builtin.min_ cl.argTypes o.type #[a.eval x, a.eval y]) (by rw [fx]; rfl) r ra k
  ·rename_i x y h2
   have e2 : cl.args.map a.eval = #[a.eval x, a.eval y] := by rw [← Array.toArray_toList (xs := cl.args), h2]; simp
   rw [e2] at fx
   obtain ⟨z, val, r, ra, k⟩ := vv (P := P) h (bc he x) (bc he y) cl.argTypes o.type
   exact dG hK hs (m := Builtin.max_ cl.argTypes o.type #[a.eval x, a.eval y]) (by rw [fx]; rfl) r ra k
  ·exact h.elim
 ·rename_i f Ry
  have fM := xv he cl.args.toList
  have Gw : ∀ (i : Nat) x v, (cl.args.toList.map (aI env))[i]? = some x → (cl.args.map a.eval)[i]? = some v → RA w c H x v := fun i x v hi hv => fM i x v hi (by
   rw [← Array.getElem?_toList, Array.toList_map] at hv; exact hv)
  have hf := bc he f
  have run : ∀ (g : FuncId) (first captured : Array Value), a.eval f = .func (.func g) first captured →
   (execOp a.eval o).run P w = (callFunc g (first ++ cl.args.map a.eval ++ captured)).run P w := by
   intro g first captured Gq
   rw [hx]
   simp only [resolve, Ry, Gq, Deferred.ofValue, pure_bind, invoke]
  split at h
  ·rename_i g first captured Ni
   rw [Ni] at hf
   generalize Gq : a.eval f = fv at hf
   cases hf with | t _ _ hf => cases hf with | fn _ _ _ p q ha hb cY yt =>
   obtain ⟨l, r⟩ := ym (A1 := first.map .t) (A2 := cl.args.toList.map (aI env)) (A3 := captured.map .t) (v1 := p) (v2 := cl.args.map a.eval) (v3 := q) (by simpa using ha) (by simp) (by simpa using hb) (ov cY) Gw (ov yt)
   exact zy hK hs (run g p q Gq) h l r
  ·rename_i g first captured Ni
   rw [Ni] at hf
   generalize Gq : a.eval f = fv at hf
   cases hf with | fn _ _ _ p q ha hb cY yt =>
   obtain ⟨l, r⟩ := ym (A1 := first) (A2 := cl.args.toList.map (aI env)) (A3 := captured) (v1 := p) (v2 := cl.args.map a.eval) (v3 := q) ha (by simp) hb cY Gw yt
   exact zy hK hs (run g p q Gq) h l r
  ·exact h.elim
 ·exact h.elim
theorem zP {w c H} {env : List (Nat × AV)} {a : Act} (he : ∀ t, RA w c H (lk env t) (a.tmps.getD t undef)) (x : Option Operand) : RO w c H (x.map (aI env)) (x.map a.eval) := by
 cases x with
 | none => exact .no
 | some x => exact .yes _ _ (bc he x)
theorem zo (hT : bi P tab) {o : Oper} {env : List (Nat × AV)} {H : AH} {K : AV → AH → Prop} (h : pz tab (γ P) o env H K) {a : Act} {w : World} {c : Cx} {B : Nat} (hs : HS w c H B)
 (he : ∀ t, RA w c H (lk env t) (a.tmps.getD t undef)) {next : Act → World → Prop} {Q : Exit → Act → World → Prop} (hK : Bs P o a w c H B K next) : o.wp P a w next Q := by
 unfold pz at h
 split at h
 ·rename_i x ho
  exact dG hK hs (m := pure (a.eval x)) (by unfold execOp; rw [ho]; rfl) rfl (bc he x) h
 ·rename_i x ho
  exact fN hK (m := pure (a.eval x)) (by unfold execOp; rw [ho]; rfl) (CR hs h (bc he x))
 ·rename_i x y z ho
  obtain ⟨b, v, val, e1, e2, ra, k⟩ := HD h (bc he x) (bc he y) (bc he z) (.inr (.inr trivial))
  refine dG hK hs (m := pure val) ?_ rfl ra k
  unfold execOp; rw [ho]
  simp only [e1, asBool, pure_bind, e2]
 ·rename_i e ho
  rw [Γ] at h
  obtain ⟨y, hy, h⟩ := h
  rw [Γ] at h
  obtain ⟨zs, hz, h⟩ := h
  rw [ap] at h
  obtain ⟨hc, h⟩ := h
  simp only [Bool.and_eq_true] at hc
  split at h
  ·exact fN hK (m := Instr.alloc e true (.tuple #[])) (by unfold execOp; rw [ho]) (zw hT hy hz hc.1 (Nat.eq_of_beq_eq_true hc.2) hs h _)
  ·exact fN hK (m := Instr.alloc e true (.tuple #[])) (by unfold execOp; rw [ho]) (Eo hT hy hz hc.1 hs h _)
 ·rename_i e x ho
  rw [ap] at h
  exact fN hK (m := Instr.box e (a.eval x)) (by unfold execOp; rw [ho]) (KQ hs e (bc he x) h.1 h.2)
 ·rename_i t parts ho
  obtain ⟨x, val, r, ra, k⟩ := En (P := P) hT (vs := parts.map fun (i, x) => (i, a.eval x)) (by rw [Array.toList_map]; exact u7 he parts.toList) h
  exact dG hK hs (m := Instr.build t (parts.map fun (i, x) => (i, a.eval x))) (by unfold execOp; rw [ho]) r ra k
 ·rename_i t n parts ho
  exact fN hK (m := Instr.buildSlice t n (parts.map fun (i, x) => (i, a.eval x))) (by unfold execOp; rw [ho]) (xa hT hs (by rw [Array.toList_map]; exact u7 he parts.toList) h)
 ·rename_i t x ho
  obtain ⟨y, val, r, ra, k⟩ := zr (P := P) hT hs h (bc he x)
  exact dG hK hs (m := Instr.loadAt t (a.eval x)) (by unfold execOp; rw [ho]) r ra k
 ·rename_i t x y ho
  obtain ⟨w', H', r, h1, h2, h3, k⟩ := Ed (P := P) hT hs h (bc he x) (bc he y)
  have hx : execOp a.eval o = (do Instr.storeAt t (a.eval x) (a.eval y); pure .skip) := by unfold execOp; rw [ho]
  unfold Oper.wp
  rw [hx]
  simp only [Sem.run_bind, r, Result.andThen_ok, Sem.run_pure, Oper.upon_skip]
  exact hK _ _ w' c H' (.ao [] #[] rfl (by simp)) h1 h2 h3 k
 ·rename_i x ho
  obtain ⟨hv, k⟩ := zp h (bc he x)
  exact dG hK hs (m := pure (a.eval x)) (by rw [y7 ho hv, pure_bind]) rfl (bc he x) k
 ·rename_i op t x y t2 ho
  obtain ⟨z, val, r, ra, k⟩ := KR (P := P) hT (xo := x) (yo := y) h (bc he x) (bc he y)
  exact dG hK hs (m := do eqGuard op t x y (a.eval x) (a.eval y); binOp op t (a.eval x) (a.eval y)) (by unfold execOp; rw [ho]) r (.t _ _ (ra w _)) k
 ·rename_i op t x ho
  obtain ⟨z, val, r, ra, k⟩ := L1 (P := P) h (bc he x)
  exact dG hK hs (m := Op.unary op (a.eval x)) (by unfold execOp; rw [ho]) r (.t _ _ (ra w _)) k
 ·rename_i t u x ho
  obtain ⟨z, val, r, ra, k⟩ := By (P := P) hT hs h (bc he x)
  exact dG hK hs (m := convert t u (a.eval x)) (by unfold execOp; rw [ho]) r ra k
 ·rename_i t x ho
  rw [Γ] at h
  obtain ⟨y, hy, h⟩ := h
  rw [ap] at h
  obtain ⟨hc, h⟩ := h
  have hd := (hT t y hy).d
  have run : (Instr.makeInterface t (a.eval x)).run P w = .ok (.iface t (a.eval x)) w := by
   simp only [Instr.makeInterface, Sem.run_bind, run_underlying hd, Result.andThen_ok]
   cases jh : y.d <;> rw [jh] at hc <;> first | rfl | (simp at hc)
  have cY := bc he x
  split at h
  ·rename_i v hv
   rw [hv] at cY
   exact dG hK hs (m := Instr.makeInterface t (a.eval x)) (by unfold execOp; rw [ho]) run (.t _ _ (.bY _ _ _ cY.rt)) h
  ·exact dG hK hs (m := Instr.makeInterface t (a.eval x)) (by unfold execOp; rw [ho]) run (.bY _ _ _ cY) h
 ·rename_i f first captured ho
  refine dG hK hs (m := Instr.makeFunc f (first.map a.eval) (captured.map a.eval)) (by unfold execOp; rw [ho]) rfl (.fn _ _ _ _ _ (by simp) (by simp) (fun i x v hi hv => ?_) (fun i x v hi hv => ?_)) h
  ·exact xv he first.toList i x v hi (by rw [← Array.getElem?_toList, Array.toList_map] at hv; exact hv)
  ·exact xv he captured.toList i x v hi (by rw [← Array.getElem?_toList, Array.toList_map] at hv; exact hv)
 ·rename_i t l cp ho
  exact fN hK (m := Instr.makeSlice t (a.eval l) (a.eval cp)) (by unfold execOp; rw [ho]) (yX hT hs (bc he l) (bc he cp) h)
 ·rename_i t x lo hi mx ho
  obtain ⟨z, val, r, ra, k⟩ := Ee (P := P) hT hs h (bc he x) (zP he lo) (zP he hi) (zP he mx)
  exact dG hK hs (m := Instr.sliceAt t (a.eval x) (lo.map a.eval) (hi.map a.eval) (mx.map a.eval)) (by unfold execOp; rw [ho]) r ra k
 ·rename_i t x k0 ho
  obtain ⟨z, val, r, ra, k⟩ := y3 (P := P) hT h (bc he x)
  exact dG hK hs (m := Instr.fieldAt t (a.eval x) k0) (by unfold execOp; rw [ho]) r ra k
 ·rename_i t x k0 ho
  obtain ⟨z, val, r, ra, k⟩ := Ej (P := P) hT h (bc he x)
  exact dG hK hs (m := Instr.field t (a.eval x) k0) (by unfold execOp; rw [ho]) r ra k
 ·rename_i t x i ho
  obtain ⟨z, val, r, ra, k⟩ := yY (P := P) hT h (bc he x) (bc he i)
  exact dG hK hs (m := Instr.indexAt t (a.eval x) (a.eval i)) (by unfold execOp; rw [ho]) r ra k
 ·rename_i t x i ho
  obtain ⟨z, val, r, ra, k⟩ := Eh (P := P) hT h (bc he x) (bc he i)
  exact dG hK hs (m := Instr.index t (a.eval x) (a.eval i)) (by unfold execOp; rw [ho]) r ra k
 ·rename_i x i ho
  obtain ⟨z, val, r, ra, k⟩ := Bx (P := P) h (bc he x)
  exact dG hK hs (m := Instr.extract (a.eval x) i) (by unfold execOp; rw [ho]) r ra k
 ·rename_i cl ho
  exact HL hT ho h hs he hK
 ·rename_i t x ho
  exact fN hK (m := Instr.range t (a.eval x)) (by unfold execOp; rw [ho]) (Eg hT hs h (bc he x))
 ·rename_i x st ho
  exact fN hK (m := Instr.next (a.eval x) st o.type) (by unfold execOp; rw [ho]) (HF hs h (bc he x) _)
 ·exact h.elim
end
end Go.Proofs.YtcogcbplmkcojaaGreatDoor
namespace Go.Proofs.YtcogcbplmkcojaaGreatDoor
open Go.RowKit
set_option linter.unusedVariables false
set_option linter.unusedSimpArgs false
structure ky where
 N : Nat
 B : Nat
 w0 : World
 c0 : Cx
 H0 : AH
 ds : List Deferred
structure Sat (O : ky) (c : Cx) (s : St) (a : Act) (w : World) : Prop where
 env : ∀ t, RA w c s.H (lk s.env t) (a.tmps.getD t undef)
 hs : HS w c s.H O.B
 size : a.tmps.size = O.N
 defers : a.defers = O.ds
 ev : Ev O.w0 O.c0 O.H0 w c s.H
 below : Below O.B O.w0 w
theorem Sat.go {O c s a w c' H' w'} (h : Sat O c s a w) (ev : Ev w c s.H w' c' H') (hs : HS w' c' H' O.B) (hb : Below O.B w w') : Sat O c' ⟨s.env, H'⟩ a w' :=
 ⟨fun t => (h.env t).ev ev, hs, h.size, h.defers, h.ev.trans ev, h.below.trans hb⟩
theorem e9 (d : Nat) (v : AV) (env : List (Nat × AV)) (t : Nat) : lk ((d, v) :: env) t = if d = t then v else lk env t := by
 simp only [lk]
 by_cases h : d = t
 ·subst h; simp
 ·have : Nat.beq d t = false := by
   cases hb : Nat.beq d t with
   | false => rfl
   | true => exact (h (Nat.eq_of_beq_eq_true hb)).elim
  rw [this, if_neg h]
theorem Sat.tell {O c s a w} (h : Sat O c s a w) {d : Nat} {v : AV} (hv : RA w c s.H v (a.tmps.getD d undef)) : Sat O c ⟨(d, v) :: s.env, s.H⟩ a w := by
 refine ⟨fun t => ?_, h.hs, h.size, h.defers, h.ev, h.below⟩
 rw [e9]
 split
 ·rename_i e; rw [← e]; exact hv
 ·exact h.env t
theorem Sat.put {O c env H a w} (h : Sat O c ⟨env, H⟩ a w) (d : Option Tmp) (hd : ∀ k, d = some k → k < O.N) {v : AV} {val : Value} (hv : RA w c H v val) (s0 : St) (ke : s0.env = env) : Sat O c (s0.put d v H) (a.put d val) w := by
 subst ke
 cases d with
 | none => exact h
 | some k =>
  have hk := hd k rfl
  refine ⟨fun t => ?_, h.hs, by simp [Act.put, h.size], h.defers, h.ev, h.below⟩
  simp only [St.put, Act.put]
  rw [e9]
  have qM : k < a.tmps.size := by rw [h.size]; exact hk
  by_cases e : k = t
  ·subst e
   rw [if_pos rfl]
   simp [Array.getD_eq_getD_getElem?, Array.getElem?_setIfInBounds_self_of_lt qM]
   exact hv
  ·rw [if_neg e]
   simp only [Array.getD_eq_getD_getElem?, Array.getElem?_setIfInBounds_ne e]
   have := h.env t
   rwa [Array.getD_eq_getD_getElem?] at this
def kG (N : Nat) (o : Oper) : Bool :=
 match o.dst with
 | some d => Nat.blt d N
 | none => true
theorem ox {N : Nat} {o : Oper} (h : kG N o = true) : ∀ k, o.dst = some k → k < N := by
 intro k hk
 simp only [kG, hk] at h
 simpa [Nat.blt_eq] using h
section
variable {P : Program} {tab : a9}
def Good (O : ky) (K : St → Prop) (Q : Act → World → Prop) : Prop := ∀ s c a w, Sat O c s a w → K s → Q a w
theorem uV {a : Act} {d : Nat} {b : Bool} (h : a.tmps.getD d undef = .bool b) : a.tmps[d]? = some (.bool b) := by
 rw [Array.getD_eq_getD_getElem?] at h
 cases hd : a.tmps[d]? with
 | none => simp [hd, undef] at h
 | some v => simpa [hd] using h
theorem Ei (hT : bi P tab) {O : ky} {ops : Array Oper} {o : Oper} {s : St} {K : St → Prop} (h : kl tab (γ P) ops o s K) (hd : kG O.N o = true) {c : Cx} {a : Act} {w : World} (hs : Sat O c s a w)
 {next : Act → World → Prop} {Q : Exit → Act → World → Prop} (hK : Good O K next) :
 if Region.wanted o (yielded ops a.tmps) then o.wp P a w next Q else next (a.put o.dst undef) w := by
 have hd := ox hd
 have run : ∀ {s : St}, Sat O c s a w → pz tab (γ P) o s.env s.H (fun v H => K (s.put o.dst v H)) → o.wp P a w next Q := fun {s} hs h =>
  zo hT h hs.hs hs.env (fun v val w' c' H' h1 h2 h3 h4 h5 => hK _ c' _ _ ((hs.go h3 h2 h4).put o.dst hd h1 s rfl) h5)
 have skip : ∀ {s : St}, Sat O c s a w → K (s.put o.dst (.ao []) s.H) → next (a.put o.dst undef) w := fun {s} hs h =>
  hK _ c _ _ (Sat.put (env := s.env) (H := s.H) hs o.dst hd (v := .ao []) (.ao [] #[] rfl (by simp)) s rfl) h
 obtain ⟨env, H⟩ := s
 simp only [kl, vG, xh] at h
 split at h
 ·rename_i hg
  rw [if_pos (by simp [Region.wanted, hg])]
  exact run hs h
 ·rename_i j want hg
  rw [Γ] at h
  obtain ⟨d, Kh, h⟩ := h
  have Kh : (ops[j]?).bind (·.dst) = some d := Kh
  have cY := hs.env d
  split at h
  ·rename_i b hl
   rw [hl] at cY
   have wc := uV cY.bool
   have mb : yielded ops a.tmps j = some b := by simp only [yielded, Kh, Option.bind_some, wc]
   have tell : ∀ b', b = b' → Sat O c ⟨(d, .t (.bool b')) :: env, H⟩ a w := fun b' e => by
    subst e; exact hs.tell cY
   split at h
   ·rw [ku] at h
    rcases h with ⟨rfl, h⟩ | ⟨rfl, h⟩
    ·rw [if_pos (by simp [Region.wanted, hg, mb])]
     exact run (tell true rfl) h
    ·rw [if_neg (by simp [Region.wanted, hg, mb])]
     exact skip (tell false rfl) h
   ·rw [ku] at h
    rcases h with ⟨rfl, h⟩ | ⟨rfl, h⟩
    ·rw [if_neg (by simp [Region.wanted, hg, mb])]
     exact skip (tell true rfl) h
    ·rw [if_pos (by simp [Region.wanted, hg, mb])]
     exact run (tell false rfl) h
  ·rename_i hl
   rw [hl] at cY
   have hu : a.tmps.getD d undef = .tuple #[] := by
    generalize a.tmps.getD d undef = q at cY
    cases cY with | ao _ vs td _ =>
    have : vs = #[] := Array.eq_empty_of_size_eq_zero (by simpa using td.symm)
    rw [this]
   have mb : yielded ops a.tmps j = none := by
    rw [Array.getD_eq_getD_getElem?] at hu
    simp only [yielded, Kh, Option.bind_some]
    cases hq : a.tmps[d]? with
    | none => rfl
    | some v => simp [hq] at hu; subst hu; rfl
   rw [if_neg (by simp [Region.wanted, hg, mb])]
   exact skip hs h
  ·exact h.elim
theorem BW (hT : bi P tab) {O : ky} {ops : Array Oper} {Q : Exit → Act → World → Prop} : ∀ {l : List Oper} {s : St} {K : St → Prop}, L2 tab (γ P) ops l s K → l.all (kG O.N) = true → ∀ {c : Cx} {a : Act} {w : World}, Sat O c s a w →
 Good O K (Q .normal) → wpList P ops Q l a w
 | [], s, K, h, hd, c, a, w, hs, hK => hK s c a w hs h
 | o :: r, s, K, h, hd, c, a, w, hs, hK => by
  simp only [List.all_cons, Bool.and_eq_true] at hd
  have := Ei (Q := Q) (next := wpList P ops Q r) hT h hd.1 hs (fun s' c' a' w' h1 h4 => BW hT h4 hd.2 h1 hK)
  unfold wpList
  split
  ·rename_i hw; rw [if_pos hw] at this; exact .inl this
  ·rename_i hw; rw [if_neg hw] at this; exact this
def aX (k0 : Nat) (s s' : St) : Prop := ∀ O c a w, O.H0.length = k0 → Sat O c s a w → ∃ c', Sat O c' s' a w
def D8 (k0 : Nat) (body : (Ex → St → Prop) → St → Prop) (Q : Ex → St → Prop) (s : St) : Prop :=
 ∃ (I : Type) (S : I → St) (μ : I → Nat) (i : I), aX k0 s (S i) ∧ ∀ i, body (fun e s' => match e with | .normal => ∃ j, aX k0 s' (S j) ∧ μ j < μ i | e => Q e s') (S i)
noncomputable def KH (k0 : Nat) (n : Nat) : ((Ex → St → Prop) → St → Prop) → (Ex → St → Prop) → St → Prop :=
 @Nat.rec (fun _ => ((Ex → St → Prop) → St → Prop) → (Ex → St → Prop) → St → Prop) (fun body Q s => D8 k0 body Q s)
  (fun _ ih body Q s => body (fun e s' => match e with | .normal => ih body Q s' | e => Q e s') s) n
def uq (k0 : Nat) (body : (Ex → St → Prop) → St → Prop) (Q : Ex → St → Prop) (s : St) : Prop := ∃ n, KH k0 n body Q s
theorem bd {k0 : Nat} {body : (Ex → St → Prop) → St → Prop} {Q : Ex → St → Prop} {s : St} (n : Nat) (h : KH k0 n body Q s) : uq k0 body Q s := ⟨n, h⟩
def jY (P : Program) (c : Code) (Q : Exit → Act → World → Prop) (a : Act) (w : World) : Prop :=
 ∀ (b : Frame) (k : List Item) (cs : List Frame), ∃ e a' w', Q e a' w' ∧ Arrives P (lone (b.at a (.code c :: .inLoop c :: k)) cs w) b k cs e a' w'
theorem jY.wp {P : Program} {c : Code} {Q : Exit → Act → World → Prop} {a : Act} {w : World} (h : jY P c Q a w) : (Code.loop c).wp P Q a w := fun b k cs => by
 obtain ⟨e, a', w', hq, fe⟩ := h b k cs
 exact ⟨e, a', w', hq, .of_steps (.one step_loop) fe⟩
theorem jY.round {P : Program} {c : Code} {Q : Exit → Act → World → Prop} {a : Act} {w : World} (h : c.wp P (Exit.then (jY P c Q) Q) a w) : jY P c Q a w := fun b k cs => by
 obtain ⟨e, Oc, L4, hq, fe⟩ := h b (.inLoop c :: k) cs
 cases e with
 | normal =>
  obtain ⟨S3, S4, SP, Q8, OJ⟩ := hq b k cs
  exact ⟨S3, S4, SP, Q8, .of_steps (Steps.trans fe (.one step_inLoop)) OJ⟩
 | exit id => exact ⟨_, Oc, L4, hq, .pass (x := .inLoop c) rfl (fun _ _ => .inl (by simp)) fe⟩
 | goto l => exact ⟨_, Oc, L4, hq, .pass (x := .inLoop c) rfl (fun _ _ => .inl (by simp)) fe⟩
 | ret => exact ⟨_, Oc, L4, hq, .pass (x := .inLoop c) rfl (fun _ _ => .inl (by simp)) fe⟩
 | panic ch => exact ⟨_, Oc, L4, hq, .pass (x := .inLoop c) rfl (fun _ _ => .inl (by simp)) fe⟩
 | outgrown => exact ⟨_, Oc, L4, hq, .pass (x := .inLoop c) rfl (fun _ _ => .inl (by simp)) fe⟩
theorem jY.inv {P : Program} {c : Code} {Q : Exit → Act → World → Prop} (I : Act → World → Prop) (μ : Act → World → Nat)
 (round : ∀ a w, I a w → c.wp P (Exit.then (fun a' w' => I a' w' ∧ μ a' w' < μ a w) Q) a w) : ∀ (n : Nat) (a : Act) (w : World), μ a w = n → I a w → jY P c Q a w := by
 intro n
 induction n using Nat.strongRecOn with
 | _ n ih =>
  intro a w hn hI
  refine jY.round (wp_mono (round a w hI) fun e a' w' hq => ?_)
  cases e with
  | normal => exact ih (μ a' w') (hn ▸ hq.2) a' w' rfl hq.1
  | _ => exact hq
abbrev sc := Array Oper → St → (St → Prop) → Prop
noncomputable def vw (tab : a9) (call : jE) (nZ : sc) (k0 : Nat) (x : Code) : (Ex → St → Prop) → St → Prop :=
 @Code.rec (fun _ => (Ex → St → Prop) → St → Prop)
  (fun Q s => Q .normal s)
  (fun _ ops draw Q s => match draw with
   | false => L2 tab call ops ops.toList s fun s' => Q .normal s'
   | true => nZ ops s fun s' => Q .normal s')
  (fun _ _ lG lF Q s => lG (fun e s' => match e with | .normal => lF Q s' | e => Q e s') s)
  (fun c _ _ lG lF Q s => match aI s.env c with
   | .t (.bool t) => Br t (lG Q s) (lF Q s)
   | _ => False)
  (fun id _ ih Q s => ih (fun e s' => match e with | .exit i => (match Nat.beq i id with | true => Q .normal s' | false => Q (.exit i) s') | e => Q e s') s)
  (fun _ ih Q s => uq k0 ih Q s)
  (fun _ _ _ _ _ _ _ _ => False) (fun id Q s => Q (.exit id) s) (fun _ _ _ _ => False) (fun _ _ _ => False) (fun _ _ _ => False) (fun Q s => Q .ret s) (fun _ _ _ => False) x
theorem CQ {tab : a9} {call : jE} {nZ : sc} {k0 : Nat} {c : Operand} {x y : Code} {Q : Ex → St → Prop} {s : St} : vw tab call nZ k0 (.cond c x y) Q s = match aI s.env c with
 | .t (.bool t) => Br t (vw tab call nZ k0 x Q s) (vw tab call nZ k0 y Q s)
 | _ => False := rfl
def jm (N : Nat) : Code → Bool
 | .seq x y => jm N x && jm N y
 | .cond _ x y => jm N x && jm N y
 | .block _ x => jm N x
 | .loop x => jm N x
 | .region _ ops _ => ops.toList.all (kG N)
 | _ => true
def Ex.out : Ex → Exit
 | .normal => .normal
 | .exit id => .exit id
 | .ret => .ret
def Ends (O : ky) (Q : Ex → St → Prop) (R : Exit → Act → World → Prop) : Prop := ∀ e s c a w, Sat O c s a w → Q e s → R e.out a w
def zg (P : Program) (tab : a9) (nZ : sc) : Prop :=
 ∀ {O : ky} {id : Nat} {ops : Array Oper} {s : St} {K : St → Prop}, nZ ops s K → ops.toList.all (kG O.N) = true → ∀ {c : Cx} {a : Act} {w : World} {R : Exit → Act → World → Prop}, Sat O c s a w → Good O K (R .normal) →
  (Code.region id ops true).wp P R a w
theorem HJ (hT : bi P tab) {nZ : sc} (I7 : zg P tab nZ) {O : ky} : ∀ {x : Code} {Q : Ex → St → Prop} {s : St}, vw tab (γ P) nZ O.H0.length x Q s → jm O.N x = true → ∀ {c : Cx} {a : Act} {w : World} {R : Exit → Act → World → Prop},
 Sat O c s a w → Ends O Q R → x.wp P R a w := by
 intro x
 induction x with
 | skip => intro Q s h hd c a w R hs hR; exact wp_skip (hR .normal s c a w hs h)
 | seq x y MC MB =>
  intro Q s h hd c a w R hs hR
  simp only [jm, Bool.and_eq_true] at hd
  refine wp_seq (MC h hd.1 hs fun e s' c' a' w' aF hq => ?_)
  cases e with
  | normal => exact MB hq hd.2 aF hR
  | exit id => exact hR (.exit id) s' c' a' w' aF hq
  | ret => exact hR .ret s' c' a' w' aF hq
 | cond o x y MC MB =>
  intro Q s h hd c a w R hs hR
  simp only [jm, Bool.and_eq_true] at hd
  rw [CQ] at h
  have cY := bc hs.env o
  split at h
  ·rename_i t ht
   rw [ht] at cY
   refine wp_cond cY.bool ?_
   rw [ku] at h
   rcases h with ⟨rfl, h⟩ | ⟨rfl, h⟩
   ·exact MC h hd.1 hs hR
   ·exact MB h hd.2 hs hR
  ·exact h.elim
 | block id x ih =>
  intro Q s h hd c a w R hs hR
  refine wp_block (ih h hd hs fun e s' c' a' w' aF hq => ?_)
  cases e with
  | normal => exact hR .normal s' c' a' w' aF hq
  | ret => exact hR .ret s' c' a' w' aF hq
  | exit i =>
   simp only at hq
   simp only [Ex.out, Exit.inBlock]
   split at hq
   ·rename_i hb
    rw [if_pos (Nat.eq_of_beq_eq_true hb)]
    exact hR .normal s' c' a' w' aF hq
   ·rename_i hb
    rw [if_neg (fun e => by subst e; simp at hb)]
    exact hR (.exit i) s' c' a' w' aF hq
 | loop x ih =>
  intro Q s h hd c a w R hs hR
  obtain ⟨n, h⟩ := h
  refine jY.wp ?_
  induction n generalizing s c a w with
  | succ n F1 =>
   refine jY.round (ih h hd hs fun e s' c' a' w' aF hq => ?_)
   cases e with
   | normal => exact F1 aF hq
   | exit id => exact hR (.exit id) s' c' a' w' aF hq
   | ret => exact hR .ret s' c' a' w' aF hq
  | zero =>
  obtain ⟨I, S, μ, i0, h0, MM⟩ := h
  have hmin : ∀ a w, (∃ i c, Sat O c (S i) a w) → ∃ i c, Sat O c (S i) a w ∧ ∀ j c', Sat O c' (S j) a w → μ i ≤ μ j := by
   intro a w ⟨i, c, hi⟩
   have key : ∀ n i c, μ i = n → Sat O c (S i) a w → ∃ i c, Sat O c (S i) a w ∧ ∀ j c', Sat O c' (S j) a w → μ i ≤ μ j := by
    intro n
    induction n using Nat.strongRecOn with
    | _ n F1 =>
     intro i c aG hi
     by_cases hex : ∃ j c', Sat O c' (S j) a w ∧ μ j < μ i
     ·obtain ⟨j, c', hj, χ⟩ := hex
      exact F1 (μ j) (by omega) j c' rfl hj
     ·exact ⟨i, c, hi, fun j c' hj => Nat.le_of_not_lt fun χ => hex ⟨j, c', hj, χ⟩⟩
   exact key _ i c rfl hi
  let LX : Act → World → Nat := fun a w => open Classical in if hh : ∃ i c, Sat O c (S i) a w then μ (Classical.choose (hmin a w hh)) else 0
  have QO : ∀ a w j c', Sat O c' (S j) a w → LX a w ≤ μ j := fun a w j c' hj => by
   have hh : ∃ i c, Sat O c (S i) a w := ⟨j, c', hj⟩
   simp only [LX, dif_pos hh]
   obtain ⟨c2, _, hle⟩ := Classical.choose_spec (hmin a w hh)
   exact hle j c' hj
  obtain ⟨c1, dd⟩ := h0 O c a w rfl hs
  refine jY.inv (fun a w => ∃ i c, Sat O c (S i) a w) LX (fun a w hh => ?_) _ a w rfl ⟨i0, c1, dd⟩
  obtain ⟨c2, fa, _⟩ := Classical.choose_spec (hmin a w hh)
  have jL : LX a w = μ (Classical.choose (hmin a w hh)) := by simp only [LX, dif_pos hh]
  refine ih (MM (Classical.choose (hmin a w hh))) hd fa fun e s' c' a' w' aF hq => ?_
  cases e with
  | normal =>
   obtain ⟨j, hw, χ⟩ := hq
   obtain ⟨c3, O_⟩ := hw O c' a' w' rfl aF
   exact ⟨⟨j, c3, O_⟩, by have := QO a' w' j c3 O_; omega⟩
  | exit id => exact hR (.exit id) s' c' a' w' aF hq
  | ret => exact hR .ret s' c' a' w' aF hq
 | exit id => intro Q s h hd c a w R hs hR; exact wp_exit (hR (.exit id) s c a w hs h)
 | ret => intro Q s h hd c a w R hs hR; exact wp_ret (hR .ret s c a w hs h)
 | region id ops draw =>
  intro Q s h hd c a w R hs hR
  cases draw with
  | false => exact wp_region_list (BW hT h hd hs fun s' c' a' w' aF hq => hR .normal s' c' a' w' aF hq)
  | true => exact I7 h hd hs fun s' c' a' w' aF hq => hR .normal s' c' a' w' aF hq
 | _ => intro Q s h; exact h.elim
def w_ (tab : a9) (s : St) : List ResultVar → (List AV → Prop) → Prop
 | [], K => K []
 | .tmp t :: r, K => w_ tab s r fun l => K (lk s.env t :: l)
 | .cell a ty :: r, K => mO tab ty s.H (lk s.env a) fun v => w_ tab s r fun l => K (v :: l)
def JR : List AV → AV
 | [v] => v
 | l => .ao l
def uh : Nat → List AV → List (Nat × AV)
 | _, [] => []
 | n, a :: r => (n, a) :: uh (n + 1) r
def OW (tab : a9) (call : jE) (nZ : sc) (k0 : Nat) (fn : Func) (x : Code) (args : List AV) (H : AH) (Q : AV → AH → Prop) : Prop :=
 Ck (Nat.ble args.length fn.ntmps && jm fn.ntmps x)
  (vw tab call nZ k0 x (fun e s => match e with | .exit _ => False | _ => w_ tab s fn.results.toList fun l => Q (JR l) s.H) ⟨uh 0 args, H⟩)
theorem Bl : ∀ (args : List AV) (n t : Nat), lk (uh n args) t = if n ≤ t then args.getD (t - n) .bj else .bj
 | [], n, t => by simp [uh, lk]
 | a :: r, n, t => by
  simp only [uh]
  rw [e9, Bl r (n + 1) t]
  by_cases h : n = t
  ·subst h; simp
  ·by_cases h2 : n + 1 ≤ t
   ·rw [if_neg h, if_pos h2, if_pos (by omega), show t - n = (t - (n + 1)) + 1 by omega]; rfl
   ·rw [if_neg h, if_neg h2, if_neg (by omega)]
def vK (tmps : Array Value) : ResultVar → Sem Value
 | .tmp t => pure (tmps.getD t undef)
 | .cell a t => do loadVar t (← asAddr (tmps.getD a undef))
theorem C4 (fn : Func) (tmps : Array Value) : results fn tmps = (do
 let vs ← fn.results.mapM (vK tmps)
 pure (if h : vs.size = 1 then vs[0] else .tuple vs)) := by
 unfold results
 congr
theorem w9 (hT : bi P tab) {O : ky} {c : Cx} {s : St} {a : Act} {w : World} (hs : Sat O c s a w) : ∀ {l : List ResultVar} {K : List AV → Prop}, w_ tab s l K →
 ∃ vs : List AV, ∃ us : List Value, (l.mapM (vK a.tmps)).run P w = .ok us w ∧ vs.length = us.length ∧
  (∀ (i : Nat) x v, vs[i]? = some x → us[i]? = some v → RA w c s.H x v) ∧ K vs
 | [], K, h => ⟨[], [], by simp, rfl, by simp, h⟩
 | .tmp t :: r, K, h => by
  obtain ⟨vs, us, h1, h2, h3, h4⟩ := w9 hT hs (l := r) h
  refine ⟨_, a.tmps.getD t undef :: us, ?_, by simp [h2], fun i x v hi hv => ?_, h4⟩
  ·simp only [List.mapM_cons, vK, Sem.run_bind, Sem.run_pure, Result.andThen_ok, h1]
  ·cases i with
   | zero => simp only [List.getElem?_cons_zero, Option.some.injEq] at hi hv; subst hi hv; exact hs.env t
   | succ i => simp only [List.getElem?_cons_succ] at hi hv; exact h3 i x v hi hv
 | .cell p ty :: r, K, h => by
  simp only [w_] at h
  obtain ⟨y, val, r1, r2, k⟩ := zr (P := P) hT hs.hs h (hs.env p)
  obtain ⟨vs, us, h1, h2, h3, h4⟩ := w9 hT hs (l := r) k
  refine ⟨_, val :: us, ?_, by simp [h2], fun i x v hi hv => ?_, h4⟩
  ·have ha : ∃ ad, a.tmps.getD p undef = .pointer (some ad) := by
    simp only [Instr.loadAt, Sem.run_bind] at r1
    generalize a.tmps.getD p undef = q at r1
    cases q with
    | pointer x => cases x with
     | none => simp [Instr.sureAddr] at r1
     | some ad => exact ⟨ad, rfl⟩
    | _ => simp [Instr.sureAddr] at r1
   obtain ⟨ad, Pr⟩ := ha
   rw [Pr] at r1
   simp only [Instr.loadAt, Instr.sureAddr, pure_bind] at r1
   simp only [List.mapM_cons, vK, Sem.run_bind, Pr, asAddr, Sem.run_pure, Result.andThen_ok, r1, h1]
  ·cases i with
   | zero => simp only [List.getElem?_cons_zero, Option.some.injEq] at hi hv; subst hi hv; exact r2
   | succ i => simp only [List.getElem?_cons_succ] at hi hv; exact h3 i x v hi hv
theorem vI (hT : bi P tab) {O : ky} {c : Cx} {s : St} {a : Act} {w : World} (hs : Sat O c s a w) {fn : Func} {K : List AV → Prop} (h : w_ tab s fn.results.toList K) :
 ∃ vs val, (results fn a.tmps).run P w = .ok val w ∧ RA w c s.H (JR vs) val ∧ K vs := by
 obtain ⟨vs, us, h1, h2, h3, h4⟩ := w9 hT hs h
 refine ⟨vs, if h : us.length = 1 then us[0] else .tuple us.toArray, ?_, ?_, h4⟩
 ·rw [C4, Array.mapM_eq_mapM_toList]
  simp only [Sem.run_bind, Sem.run_map, h1, Result.andThen_ok, Sem.run_pure, List.size_toArray, List.getElem_toArray]
 ·match vs, us, h2, h3 with
  | [x], [u], _, h3 => exact h3 0 x u rfl rfl
  | [], [], _, h3 => exact .ao [] #[] rfl (by simp)
  | x :: y :: r, u :: v :: q, h2, h3 =>
   have : ¬ (u :: v :: q).length = 1 := by simp
   rw [dif_neg this]
   exact .ao _ _ (by simpa using h2) (fun i x v hi hv => h3 i x v hi (by simpa using hv))
theorem γ.ο (hT : bi P tab) {nZ : sc} (I7 : zg P tab nZ) {f : FuncId} {fn : Func} {x : Code} (hf : P.funcs[f]? = some fn) (hb : fn.body = some x) (hn : (fn.name == "runtime.NumGoroutine") = false)
 {args : List AV} {H : AH} {Q : AV → AH → Prop} (h : OW tab (γ P) nZ H.length fn x args H Q) : γ P f args H Q := by
 unfold OW at h
 rw [ap] at h
 obtain ⟨hc, h⟩ := h
 simp only [Bool.and_eq_true] at hc
 have hle := Nat.le_of_ble_eq_true hc.1
 refine fun B c w vs hs hl hr => .inl ⟨⟨fn, hf, by rw [hb]; rfl, hn⟩, calls_of_wp hf hb ?_⟩
 let O : ky := ⟨fn.ntmps, B, w, c, H, []⟩
 have ke : Sat O c ⟨uh 0 args, H⟩ { tmps := vs ++ Array.replicate (fn.ntmps - vs.size) undef, defers := [] } w := by
  refine ⟨fun t => ?_, hs, by simp [O]; omega, rfl, Ev.refl _ _ _, Below.refl _ _⟩
  rw [Bl, if_pos (Nat.zero_le _), Nat.sub_zero]
  simp only [Array.getD_eq_getD_getElem?, List.getD_eq_getElem?_getD]
  by_cases ht : t < args.length
  ·rw [Array.getElem?_append_left (by omega)]
   obtain ⟨v, hv⟩ := gD (a := vs) (i := t) (by omega)
   have ha : args[t]? = some args[t] := List.getElem?_eq_getElem ht
   rw [hv, ha]
   exact hr t _ v ha hv
  ·rw [List.getElem?_eq_none (by omega)]
   exact .bj _
 refine HJ hT I7 (O := O) h hc.2 ke fun e s' c' a' w' aF hq => ?_
 cases e with
 | exit id => exact hq.elim
 | normal =>
  obtain ⟨l, val, r1, r2, k⟩ := vI hT aF hq
  exact ⟨aF.defers, val, r1, val, c', _, s'.H, rfl, r2, aF.hs, aF.ev, aF.below, k⟩
 | ret =>
  obtain ⟨l, val, r1, r2, k⟩ := vI hT aF hq
  exact ⟨aF.defers, val, r1, val, c', _, s'.H, rfl, r2, aF.hs, aF.ev, aF.below, k⟩
end
end Go.Proofs.YtcogcbplmkcojaaGreatDoor
namespace Go.Proofs.YtcogcbplmkcojaaGreatDoor
open Go.RowKit
set_option linter.unusedVariables false
set_option linter.unusedSimpArgs false
mutual
def dK : Nat → AH → AV → Option (T × List Nat)
 | 0, _, _ => none
 | k + 1, H, v =>
  match v with
  | .t x => some (x, [])
  | .sl b g i m =>
   match H[b]? with
   | some (.arr _ s z gen l) =>
    match Nat.beq g gen with
    | true => match z && Nat.beq l.length 0 with
     | true => some (.av, [])
     | false => match l.part i m with
      | .ts q => some (.vec s q, [b])
      | .vs q => match gv k H q with | some (q, ids) => some (.vec s q, b :: ids) | none => none
    | false => none
   | _ => none
  | .dc => some (.vec 0 [], [])
  | .ptr b _ _ o =>
   match H[b]? with
   | some (.box cells) => match gv k H (cells.drop o) with | some (l, ids) => some (.cO l, b :: ids) | none => none
   | _ => none
  | .agg cs => match cs.all AV.one, gv k H cs with | true, some (l, ids) => some (.agg l, ids) | _, _ => none
  | .fn f a b => match gv k H a, gv k H b with | some (x, i), some (y, j) => some (.fn f x y, i ++ j) | _, _ => none
  | .bY t v => match dK k H v with | some (x, i) => some (.bY t x, i) | none => none
  | _ => none
def gv : Nat → AH → List AV → Option (List T × List Nat)
 | 0, _, _ => none
 | _ + 1, _, [] => some ([], [])
 | k + 1, H, v :: r => match dK k H v, gv k H r with | some (x, i), some (l, j) => some (x :: l, i ++ j) | _, _ => none
end
theorem pI : ∀ (k : Nat) {H : AH} {v : AV} {x : T} {ids : List Nat}, dK k H v = some (x, ids) → v.one = true → x.one = true
 | 0, H, v, x, ids, h, _ => by simp [dK] at h
 | k + 1, H, v, x, ids, h, h1 => by
  simp only [dK] at h
  split at h
  ·cases h; exact h1
  ·split at h
   ·split at h
    ·split at h
     ·cases h; rfl
     ·split at h
      ·cases h; rfl
      ·split at h
       ·cases h; rfl
       ·cases h
    ·cases h
   ·cases h
  ·cases h; rfl
  ·split at h
   ·split at h
    ·cases h; rfl
    ·cases h
   ·cases h
  ·simp [AV.one] at h1
  ·split at h
   ·cases h; rfl
   ·cases h
  ·split at h
   ·cases h; rfl
   ·cases h
  ·cases h
theorem nq : ∀ (k : Nat) {H : AH} {cs : List AV} {l : List T} {ids : List Nat}, gv k H cs = some (l, ids) → l.length = cs.length ∧
 ∀ (i : Nat) y, l[i]? = some y → ∃ x m js, cs[i]? = some x ∧ m < k ∧ dK m H x = some (y, js) ∧ ∀ b ∈ js, b ∈ ids
 | 0, H, cs, l, ids, h => by simp [gv] at h
 | k + 1, H, [], l, ids, h => by
  simp [gv] at h
  obtain ⟨rfl, rfl⟩ := h
  simp
 | k + 1, H, a :: r, l, ids, h => by
  simp only [gv] at h
  split at h
  ·rename_i x i1 l1 j1 hx pj
   cases h
   obtain ⟨h1, h2⟩ := nq k pj
   refine ⟨by simp [h1], fun i y hi => ?_⟩
   cases i with
   | zero => simp at hi; subst hi; exact ⟨a, k, i1, rfl, Nat.lt_succ_self k, hx, fun b hb => by simp [hb]⟩
   | succ i =>
    simp at hi
    obtain ⟨x', m, js, a1, a2, a3, a4⟩ := h2 i y hi
    exact ⟨x', m, js, a1, by omega, a3, fun b hb => by simp [a4 b hb]⟩
  ·cases h
theorem rm {w : World} {c : Cx} {H : AH} {B : Nat} (hs : HS w c H B) {M' : Nat → Prop} (tp : ∀ cb, M' cb → c.M H cb) (k : Nat) : ∀ {v : AV} {u : Value} {x : T} {ids : List Nat},
 dK k H v = some (x, ids) → RA w c H v u → (∀ b ∈ ids, ∀ cb, c.G b = some cb → ¬ M' cb) → RT w M' x u := by
 induction k using Nat.strongRecOn with
 | _ k ih =>
 intro v u x ids h hr nE
 cases k with
 | zero => simp [dK] at h
 | succ k =>
  have mono : ∀ {x : T} {u : Value}, RT w (c.M H) x u → RT w M' x u := fun h => h.mono fun b _ hb => ⟨rfl, fun hm => hb (tp b hm)⟩
  -- a list of values
  have list : ∀ {m : Nat} {cs : List AV} {l : List T} {js : List Nat}, m ≤ k → gv m H cs = some (l, js) → (∀ b ∈ js, ∀ cb, c.G b = some cb → ¬ M' cb) →
   l.length = cs.length ∧ ∀ (i : Nat) y, l[i]? = some y → ∃ x, cs[i]? = some x ∧ (x.one = true → y.one = true) ∧ ∀ v, RA w c H x v → RT w M' y v := by
   intro m cs l js hm hl hj
   obtain ⟨h1, h2⟩ := nq m hl
   refine ⟨h1, fun i y hi => ?_⟩
   obtain ⟨x, m', QK, a1, a2, a3, a4⟩ := h2 i y hi
   exact ⟨x, a1, pI m' a3, fun v hv => ih m' (by omega) a3 hv fun b hb => hj b (a4 b hb)⟩
  -- a value's cells
  have cells : ∀ {m : Nat} {x : AV} {y : T} {js : List Nat}, m ≤ k → dK m H x = some (y, js) → (∀ b ∈ js, ∀ cb, c.G b = some cb → ¬ M' cb) →
   y.cells.length = x.cells.length ∧ ∀ (j : Nat) z, y.cells[j]? = some z → ∃ x', x.cells[j]? = some x' ∧ (x'.one = true → z.one = true) ∧ ∀ v, RA w c H x' v → RT w M' z v := by
   intro m x y js hm hx hj
   have single : x.one = true → x.cells = [x] → y.cells.length = x.cells.length ∧ ∀ (j : Nat) z, y.cells[j]? = some z → ∃ x', x.cells[j]? = some x' ∧ (x'.one = true → z.one = true) ∧ ∀ v, RA w c H x' v → RT w M' z v := by
    intro h1 hc
    have qJ := pI m hx h1
    rw [hc, T.gT qJ]
    refine ⟨rfl, fun j z hz => ?_⟩
    cases j with
    | zero => simp at hz; subst hz; exact ⟨x, rfl, fun _ => qJ, fun v hv => ih m (by omega) hx hv hj⟩
    | succ j => simp at hz
   cases m with
   | zero => simp [dK] at hx
   | succ m =>
    cases x with
    | t x =>
     simp only [dK] at hx
     cases hx
     rw [T.dp]
     refine ⟨by simp, fun j z hz => ⟨.t z, by simp [hz], fun h => h, fun v hv => ?_⟩⟩
     exact mono hv.rt
    | agg cs =>
     simp only [dK] at hx
     split at hx
     ·rename_i cT hl
      cases hx
      obtain ⟨h1, h2⟩ := list (by omega) hl hj
      exact ⟨h1, h2⟩
     ·cases hx
    | ptr b g i o => exact single rfl rfl
    | sl b g i n => exact single rfl rfl
    | fn f a b => exact single rfl rfl
    | bY t v => exact single rfl rfl
    | dc => exact single rfl rfl
    | ao => simp [dK] at hx
    | own => simp [dK] at hx
    | bj => simp [dK] at hx
  simp only [dK] at h
  split at h
  ·cases h; exact mono hr.rt
  ·rename_i b g i m
   cases hr with | sl _ _ _ _ _ ν hb hm hv =>
   rw [hb] at h
   cases ν with
   | dead => cases h
   | box => cases h
   | iter => cases h
   | arr e s z gen l =>
    simp only at h
    split at h
    ·rename_i hg
     obtain ⟨hlen, hm⟩ := hm.2 (Nat.eq_of_beq_eq_true hg)
     split at h
     ·rename_i hz
      cases h
      simp at hz
      rcases hm with ⟨_, _, rfl⟩ | ⟨z1, _⟩ | ⟨aw, _⟩
      ·exact .av
      ·rw [hz.1] at z1; cases z1
      ·exact (aw hz).elim
     ·rename_i hz
      have AI : ¬ (z = true ∧ l.length = 0) := fun ⟨a, b⟩ => by rw [a, b] at hz; cases hz
      -- the elements as data
      have elem : ∃ q, x = .vec s q ∧ b ∈ ids ∧ q.length = (l.part i m).length ∧ ∀ (k : Nat) y, q[k]? = some y → ∃ x0, (l.part i m).get k = some x0 ∧ y.cells.length = x0.cells.length ∧
       ∀ (j : Nat) z, y.cells[j]? = some z → ∃ x', x0.cells[j]? = some x' ∧ (x'.one = true → z.one = true) ∧ ∀ v, RA w c H x' v → RT w M' z v := by
       split at h
       ·rename_i q hq
        cases h
        rw [hq]
        refine ⟨q, rfl, by simp, rfl, fun k y hk => ⟨.t y, by simp [Sq.get, hk], by rw [T.dp]; simp, fun j z hz => ?_⟩⟩
        rw [T.dp]
        exact ⟨.t z, by simp [hz], fun h => h, fun v hv => mono hv.rt⟩
       ·rename_i q hq
        split at h
        ·rename_i q' js hl
         cases h
         rw [hq]
         obtain ⟨h1, h2⟩ := nq k hl
         refine ⟨q', rfl, by simp, h1, fun k' y hk => ?_⟩
         obtain ⟨x0, m', QK, a1, a2, a3, a4⟩ := h2 k' y hk
         obtain ⟨c1, c2⟩ := cells (by omega) a3 fun b' aC => nE b' (by simp [a4 b' aC])
         exact ⟨x0, a1, c1, c2⟩
        ·cases h
      obtain ⟨q, rfl, wu, MO, uB⟩ := elem
      rw [Sq.jo] at MO
      rcases hm with ⟨h1, h2, _⟩ | ⟨z1, l1, ad, rfl⟩ | ⟨aw, cb, cap, off, hg, rfl, bH, ej, qL, lL, lK⟩
      ·exact (AI ⟨h1, h2⟩).elim
      ·have Rb : q = [] := List.eq_nil_of_length_eq_zero (by omega)
       subst Rb
       obtain ⟨cb, off, sp⟩ := ad
       exact .vec s [] cb off 0 sp (fun _ _ => undef) (by simp) (by simp) (by simp) (by simp) (by simp) (by simp)
      ·obtain ⟨arr, kW, h1, h2, h3, h4, h5⟩ := hs.arr b cb e s z gen l hb hg
       have hn : q.length = m := by rw [MO, Nat.min_eq_left (Nat.le_sub_of_add_le (by rw [Nat.add_comm]; exact hlen))]
       have hM : ¬ M' cb := nE b wu cb hg
       have cellOf : ∀ (k : Nat) e' (j : Nat) y, q[k]? = some e' → e'.cells[j]? = some y → ∃ u, arr[(i + k) * s + j]? = some u ∧ y.one = true ∧ RT w M' y u := by
        intro k e' j y hk hj
        obtain ⟨x0, a1, a2, a3⟩ := uB k e' hk
        obtain ⟨x', b1, b2, b3⟩ := a3 j y hj
        rw [Sq.oR] at a1
        split at a1
        ·obtain ⟨u, hu, c1, c2, c3⟩ := (h5 _ _ a1).2 j x' b1
         exact ⟨u, hu, b2 c1, b3 u c2⟩
        ·cases a1
       have := RT.vec (w := w) (M := M') s q cb off cap none (fun k j => arr.getD ((i + k) * s + j) undef) (fun _ _ => hM) (by omega) (fun _ => rfl)
        (fun k e' hk => by
         obtain ⟨x0, a1, a2, a3⟩ := uB k e' hk
         rw [Sq.oR] at a1
         split at a1
         ·rw [a2]; exact (h5 _ _ a1).1
         ·cases a1)
        (fun k e' j y hk hj => by
         obtain ⟨u, hu, h6, h7⟩ := cellOf k e' j y hk hj
         have χ := ι hk
         have t_ : off = i * s := lL.resolve_left (by omega)
         rw [jQ h1, show off + k * s + j = (i + k) * s + j by rw [t_, Nat.add_mul], hu]
         exact ⟨by simp [Array.getD_eq_getD_getElem?, hu], h6⟩)
        (fun k e' j y hk hj => by
         obtain ⟨u, hu, h6, h7⟩ := cellOf k e' j y hk hj
         simp only [Array.getD_eq_getD_getElem?, hu, Option.getD_some]
         exact h7)
       rw [hn] at this
       exact this
    ·cases h
  ·cases h
   cases hr
   exact .vec 0 [] _ _ 0 _ (fun _ _ => undef) (by simp) (by simp) (by simp) (by simp) (by simp) (by simp)
  ·rename_i b g i o
   cases hr with | ptr _ _ _ _ _ ν hb hm hv =>
   rw [hb] at h
   cases ν with
   | dead => cases h
   | arr => cases h
   | iter => cases h
   | box cells =>
    simp only at h
    obtain ⟨cb, hg, rfl⟩ := hm
    split at h
    ·rename_i l j hl
     cases h
     obtain ⟨arr, e, h1, h2, h3⟩ := hs.box b cb cells hb hg
     obtain ⟨k1, k2⟩ := list (Nat.le_refl k) hl fun b' aC => nE b' (by simp [aC])
     have Km : ∀ (i : Nat) y, l[i]? = some y → ∃ v, arr[o + i]? = some v ∧ y.one = true ∧ RT w M' y v := by
      intro i y hi
      obtain ⟨x', b1, b2, b3⟩ := k2 i y hi
      rw [List.getElem?_drop] at b1
      obtain ⟨v, hv⟩ := gD (a := arr) (i := o + i) (by have := ι b1; omega)
      obtain ⟨c1, c2, _⟩ := h3 _ x' v b1 hv
      exact ⟨v, hv, b2 c1, b3 v c2⟩
     refine .cO l cb o (fun i => arr.getD (o + i) undef) (fun _ => nE b (by simp) cb hg) (fun i y hi => ?_) (fun i y hi => ?_)
     ·obtain ⟨q, hq, kU, _⟩ := Km i y hi
      exact ⟨by rw [jQ h1, hq]; simp [Array.getD_eq_getD_getElem?, hq], kU⟩
     ·obtain ⟨q, hq, kU, iu⟩ := Km i y hi
      simp only [Array.getD_eq_getD_getElem?, hq, Option.getD_some]
      exact iu
    ·cases h
  ·rename_i cs
   split at h
   ·rename_i cT hl
    rename_i l j
    cases h
    cases hr with | agg _ vs hlen h1 nB =>
    obtain ⟨k1, k2⟩ := list (Nat.le_refl k) hl nE
    refine .agg l vs (by omega) (fun i y hi => ?_) (fun i y v hi hv => ?_)
    ·obtain ⟨x', b1, b2, _⟩ := k2 i y hi
     exact b2 (h1 i x' b1)
    ·obtain ⟨x', b1, _, b3⟩ := k2 i y hi
     exact b3 v (nB i x' v b1 hv)
   ·cases h
  ·rename_i f a b
   split at h
   ·rename_i x1 i1 y1 j1 ha hb
    cases h
    cases hr with | fn _ _ _ p q Tn M3 cY yt =>
    obtain ⟨k1, k2⟩ := list (Nat.le_refl k) ha fun b' aC => nE b' (by simp [aC])
    obtain ⟨k3, k4⟩ := list (Nat.le_refl k) hb fun b' aC => nE b' (by simp [aC])
    refine .fn f x1 y1 p q (by omega) (by omega) (fun i y v hi hv => ?_) (fun i y v hi hv => ?_)
    ·obtain ⟨x', b1, _, b3⟩ := k2 i y hi
     exact b3 v (cY i x' v b1 hv)
    ·obtain ⟨x', b1, _, b3⟩ := k4 i y hi
     exact b3 v (yt i x' v b1 hv)
   ·cases h
  ·split at h
   ·rename_i x1 i1 hx
    cases h
    cases hr with | bY _ _ v hr =>
    exact .bY _ _ _ (ih k (Nat.lt_succ_self k) hx hr nE)
   ·cases h
  ·cases h
theorem mn {w : World} {c : Cx} {H : AH} {B : Nat} (hs : HS w c H B) {M' : Nat → Prop} (tp : ∀ cb, M' cb → c.M H cb) (k : Nat) {cs : List AV} {vs : List Value} {l : List T} {ids : List Nat}
 (h : gv k H cs = some (l, ids)) (hl : cs.length = vs.length) (hr : ∀ (i : Nat) x v, cs[i]? = some x → vs[i]? = some v → RA w c H x v) (nE : ∀ b ∈ ids, ∀ cb, c.G b = some cb → ¬ M' cb) :
 l.length = cs.length ∧ ∀ (i : Nat) x v, l[i]? = some x → vs[i]? = some v → RT w M' x v := by
 obtain ⟨h1, h2⟩ := nq k h
 refine ⟨h1, fun i y v hi hv => ?_⟩
 obtain ⟨x, m, js, a1, a2, a3, a4⟩ := h2 i y hi
 exact rm hs tp m a3 (hr i x v a1 hv) fun b hb => nE b (a4 b hb)
def ko (H : AH) : AV → AV → Prop
 | .own e s z l, .sl b g i m => H[b]? = some (.arr e s z g (.ts l)) ∧ i = 0 ∧ m = l.length
 | .t x, v => (dK 5000 H v).map Prod.fst = some x
 | _, _ => False
def jt : AV → AV → List Nat
 | .own _ _ _ _, .sl b _ _ _ => [b]
 | _, _ => []
def po (H : AH) : AV → AV → List Nat
 | .t _, v => match dK 5000 H v with | some (_, ids) => ids | none => []
 | _, _ => []
def z3 (H : AH) : List AV → List AV → Prop
 | [], [] => True
 | r :: rs, v :: vs => ko H r v ∧ z3 H rs vs
 | _, _ => False
def qi : List AV → List AV → List Nat
 | r :: rs, v :: vs => jt r v ++ qi rs vs
 | _, _ => []
def AZ (H : AH) : List AV → List AV → List Nat
 | r :: rs, v :: vs => po H r v ++ AZ H rs vs
 | _, _ => []
def qE (H : AH) : AV → AV → Prop
 | .agg rs, .agg vs => z3 H rs vs ∧ rs.all AV.one = true
 | r, v => ko H r v
def qj : AV → AV → List Nat
 | .agg rs, .agg vs => qi rs vs
 | r, v => jt r v
def vn (H : AH) : AV → AV → List Nat
 | .agg rs, .agg vs => AZ H rs vs
 | r, v => po H r v
def tS (H : AH) : List AV → List AV → Prop
 | [], [] => True
 | r :: rs, v :: vs => qE H r v ∧ tS H rs vs
 | _, _ => False
def ot : List AV → List AV → List Nat
 | r :: rs, v :: vs => qj r v ++ ot rs vs
 | _, _ => []
def p9 (H : AH) : List AV → List AV → List Nat
 | r :: rs, v :: vs => vn H r v ++ p9 H rs vs
 | _, _ => []
def zb (H : AH) : AV → AV → Prop
 | .ao rs, .ao vs => tS H rs vs
 | r, v => qE H r v
def owns : AV → AV → List Nat
 | .ao rs, .ao vs => ot rs vs
 | r, v => qj r v
def vm (H : AH) : AV → AV → List Nat
 | .ao rs, .ao vs => p9 H rs vs
 | r, v => vn H r v
def px (own Ss : List Nat) : Bool := decide (own.Nodup) && own.all fun b => !Ss.contains b
def Pack (r : AV) (v : AV) (H : AH) : Prop := zb H r v ∧ px (owns r v) (vm H r v) = true
def Ψ.re : Ψ → Ψ
 | .arr e s z _ l => .arr e s z 0 l
 | b => b
theorem Ψ.K7 {b : Ψ} (h : b.re.live = true) : b.live = true := by cases b <;> first | rfl | exact h
structure CN (w : World) (c : Cx) (H : AH) (n : Nat) (I : List Nat) (c' : Cx) (H' : AH) : Prop where
 tp : ∀ cb, c'.M H' cb → c.M H cb
 nE : ∀ b, b ∉ I → ∀ cb, c.G b = some cb → ¬ c'.M H' cb
 at_ : ∀ (k : Nat) b ν, I[k]? = some b → H[b]? = some ν → H'[n + k]? = some ν.re ∧ c'.G (n + k) = c.G b
theorem x8 {w : World} {c : Cx} {H : AH} {B n k : Nat} {I : List Nat} {c' : Cx} {H' : AH} (hs : HS w c H B) (j_ : CN w c H n I c' H') {r v : AV} {u : Value} (h : ko H r v) (hr : RA w c H v u)
 (hI : ∀ (j : Nat) b, (jt r v)[j]? = some b → I[k + j]? = some b) (hF : ∀ b ∈ po H r v, b ∉ I) :
 RA w c' H' (fS (n + k) r).1 u ∧ (fS (n + k) r).2 = (jt r v).map (fun b => (H.getD b .dead).re) := by
 unfold ko at h
 split at h
 ·rename_i e s z l b g i m
  obtain ⟨hb, rfl, rfl⟩ := h
  have hk := hI 0 b rfl
  obtain ⟨h1, h2⟩ := j_.at_ _ b _ hk hb
  cases hr with | sl _ _ _ _ _ ν aC hm hv =>
  rw [hb] at aC
  cases aC
  rw [Nat.add_zero] at h1 h2
  refine ⟨.sl _ _ _ _ _ (.arr e s z 0 (.ts l)) h1 ⟨Nat.le_refl _, fun _ => ?_⟩ hv, by simp [fS, jt, List.getD, hb, Ψ.re]⟩
  obtain ⟨h3, h4⟩ := hm.2 rfl
  refine ⟨h3, ?_⟩
  rcases h4 with h4 | h4 | ⟨a1, cb, cap, off, a2, a3⟩
  ·exact .inl h4
  ·exact .inr (.inl h4)
  ·exact .inr <| .inr ⟨a1, cb, cap, off, by rw [h2]; exact a2, a3⟩
 ·rename_i x _
  rw [Option.map_eq_some_iff] at h
  obtain ⟨⟨y, ids⟩, dd, rfl⟩ := h
  refine ⟨.t _ _ (rm hs j_.tp 5000 dd hr fun b hb => j_.nE b (hF b ?_)), by simp [fS, jt]⟩
  simp only [po, dd]
  exact hb
 ·exact h.elim
theorem I4 {H : AH} {r v : AV} {n : Nat} (h : (fS n r).2 = (jt r v).map (fun b => (H.getD b .dead).re)) : (fS n r).2.length = (jt r v).length := by rw [h]; simp
theorem x6 {w : World} {c : Cx} {H : AH} {B n : Nat} {I : List Nat} {c' : Cx} {H' : AH} (hs : HS w c H B) (j_ : CN w c H n I c' H') : ∀ {rs vs : List AV} {us : List Value} {k : Nat}, z3 H rs vs → vs.length = us.length → (∀ (i : Nat) x u, vs[i]? = some x → us[i]? = some u → RA w c H x u) →
 (∀ (j : Nat) b, (qi rs vs)[j]? = some b → I[k + j]? = some b) → (∀ b ∈ AZ H rs vs, b ∉ I) →
 (gf (n + k) rs).1.length = us.length ∧ (∀ (i : Nat) x u, (gf (n + k) rs).1[i]? = some x → us[i]? = some u → RA w c' H' x u) ∧ (gf (n + k) rs).2 = (qi rs vs).map (fun b => (H.getD b .dead).re)
 | [], [], us, k, h, hl, hr, hI, hF => ⟨by simpa [gf] using hl, by simp [gf], rfl⟩
 | r :: rs, v :: vs, [], k, h, hl, hr, hI, hF => by simp at hl
 | r :: rs, v :: vs, u :: us, k, h, hl, hr, hI, hF => by
  obtain ⟨h1, h2⟩ := x8 (k := k) hs j_ h.1 (hr 0 v u rfl rfl) (fun j b hj => hI j b (by rw [qi, List.getElem?_append_left (ι hj)]; exact hj)) (fun b hb => hF b (by simp [AZ, hb]))
  have hlen := I4 h2
  obtain ⟨h3, h4, h5⟩ := x6 (k := k + (fS (n + k) r).2.length) hs j_ h.2 (us := us) (by simpa using hl) (fun i x q hi hq => hr (i + 1) x q hi hq) (fun j b hj => by
   have := hI ((jt r v).length + j) b (by rw [qi, List.getElem?_append_right (by omega)]; simpa using hj)
   rw [hlen, Nat.add_assoc]; exact this) (fun b hb => hF b (by simp [AZ, hb]))
  refine ⟨?_, fun i x q hi hq => ?_, ?_⟩
  ·simp only [gf, List.length_cons]; rw [Nat.add_assoc]; omega
  ·simp only [gf] at hi
   cases i with
   | zero => simp at hi hq; subst hi hq; exact h1
   | succ i => simp at hi hq; rw [Nat.add_assoc] at hi; exact h4 i x q hi hq
  ·simp only [gf, qi, List.map_append]
   rw [Nat.add_assoc, h5, h2]
theorem RA.Qr {w c H} {rs : List AV} {vs : Array Value} (hl : rs.length = vs.toList.length) (h1 : rs.all AV.one = true) (hr : ∀ (i : Nat) x u, rs[i]? = some x → vs.toList[i]? = some u → RA w c H x u) : RA w c H (.agg rs) (.agg vs) := by
 rw [List.all_eq_true] at h1
 exact .agg rs vs (by simpa using hl) (fun i x hi => h1 x (List.mem_of_getElem? hi)) (fun i x v hi hv => hr i x v hi (by simpa using hv))
theorem I3 {n : Nat} {r : AV} (h : r.one = true) : (fS n r).1.one = true := by cases r <;> first | exact h | rfl | (simp [AV.one] at h)
theorem Ar : ∀ {rs : List AV} {n : Nat}, rs.all AV.one = true → (gf n rs).1.all AV.one = true
 | [], n, _ => rfl
 | r :: rs, n, h => by
  simp only [List.all_cons, Bool.and_eq_true] at h
  simp only [gf, List.all_cons, I3 h.1, Ar h.2, Bool.and_self]
theorem x7 {w : World} {c : Cx} {H : AH} {B n k : Nat} {I : List Nat} {c' : Cx} {H' : AH} (hs : HS w c H B) (j_ : CN w c H n I c' H') {r v : AV} {u : Value} (h : qE H r v) (hr : RA w c H v u)
 (hI : ∀ (j : Nat) b, (qj r v)[j]? = some b → I[k + j]? = some b) (hF : ∀ b ∈ vn H r v, b ∉ I) :
 RA w c' H' (ed (n + k) r).1 u ∧ (ed (n + k) r).2 = (qj r v).map (fun b => (H.getD b .dead).re) := by
 unfold qE at h
 split at h
 ·rename_i rs vs
  cases hr with | agg _ us hl h1 nB =>
  obtain ⟨a1, a2, a3⟩ := x6 (k := k) hs j_ h.1 (us := us.toList) (by simpa using hl) (fun i x q hi hq => nB i x q hi (by simpa using hq)) hI hF
  exact ⟨RA.Qr a1 (Ar h.2) a2, a3⟩
 ·rename_i aw
  have e1 : qj r v = jt r v := by unfold qj; split <;> first | rfl | exact (aw _ _ rfl rfl).elim
  have e2 : vn H r v = po H r v := by unfold vn; split <;> first | rfl | exact (aw _ _ rfl rfl).elim
  have e3 : ∀ m, ed m r = fS m r := by
   intro m
   cases r <;> first | rfl | skip
   simp only [ko] at h
  rw [e1] at hI ⊢
  rw [e2] at hF
  rw [e3]
  exact x8 hs j_ h hr hI hF
theorem vL {w : World} {c : Cx} {H : AH} {B n : Nat} {I : List Nat} {c' : Cx} {H' : AH} (hs : HS w c H B) (j_ : CN w c H n I c' H') : ∀ {rs vs : List AV} {us : List Value} {k : Nat}, tS H rs vs → vs.length = us.length → (∀ (i : Nat) x u, vs[i]? = some x → us[i]? = some u → RA w c H x u) →
 (∀ (j : Nat) b, (ot rs vs)[j]? = some b → I[k + j]? = some b) → (∀ b ∈ p9 H rs vs, b ∉ I) →
 (dg (n + k) rs).1.length = us.length ∧ (∀ (i : Nat) x u, (dg (n + k) rs).1[i]? = some x → us[i]? = some u → RA w c' H' x u) ∧ (dg (n + k) rs).2 = (ot rs vs).map (fun b => (H.getD b .dead).re)
 | [], [], us, k, h, hl, hr, hI, hF => ⟨by simpa [dg] using hl, by simp [dg], rfl⟩
 | r :: rs, v :: vs, [], k, h, hl, hr, hI, hF => by simp at hl
 | r :: rs, v :: vs, u :: us, k, h, hl, hr, hI, hF => by
  obtain ⟨h1, h2⟩ := x7 (k := k) hs j_ h.1 (hr 0 v u rfl rfl) (fun j b hj => hI j b (by rw [ot, List.getElem?_append_left (ι hj)]; exact hj)) (fun b hb => hF b (by simp [p9, hb]))
  have hlen : (ed (n + k) r).2.length = (qj r v).length := by rw [h2]; simp
  obtain ⟨h3, h4, h5⟩ := vL (k := k + (ed (n + k) r).2.length) hs j_ h.2 (us := us) (by simpa using hl) (fun i x q hi hq => hr (i + 1) x q hi hq) (fun j b hj => by
   have := hI ((qj r v).length + j) b (by rw [ot, List.getElem?_append_right (by omega)]; simpa using hj)
   rw [hlen, Nat.add_assoc]; exact this) (fun b hb => hF b (by simp [p9, hb]))
  refine ⟨?_, fun i x q hi hq => ?_, ?_⟩
  ·simp only [dg, List.length_cons]; rw [Nat.add_assoc]; omega
  ·simp only [dg] at hi
   cases i with
   | zero => simp at hi hq; subst hi hq; exact h1
   | succ i => simp at hi hq; rw [Nat.add_assoc] at hi; exact h4 i x q hi hq
  ·simp only [dg, ot, List.map_append]
   rw [Nat.add_assoc, h5, h2]
theorem Ir {w : World} {c : Cx} {H : AH} {B n : Nat} {I : List Nat} {c' : Cx} {H' : AH} (hs : HS w c H B) (j_ : CN w c H n I c' H') {r v : AV} {u : Value} (h : zb H r v) (hr : RA w c H v u)
 (hI : owns r v = I) (hF : ∀ b ∈ vm H r v, b ∉ I) :
 RA w c' H' (imp n r).1 u ∧ (imp n r).2 = I.map (fun b => (H.getD b .dead).re) := by
 unfold zb at h
 split at h
 ·rename_i rs vs
  cases hr with | ao _ us hl nB =>
  obtain ⟨a1, a2, a3⟩ := vL (k := 0) hs j_ h (us := us.toList) (by simpa using hl) (fun i x q hi hq => nB i x q hi (by simpa using hq)) (fun j b hj => by rw [← hI, Nat.zero_add]; exact hj) hF
  rw [← hI]
  exact ⟨.ao _ _ (by simpa using a1) (fun i x v hi hv => a2 i x v hi (by simpa using hv)), a3⟩
 ·rename_i aw
  have e1 : owns r v = qj r v := by unfold owns; split <;> first | rfl | exact (aw _ _ rfl rfl).elim
  have e2 : vm H r v = vn H r v := by unfold vm; split <;> first | rfl | exact (aw _ _ rfl rfl).elim
  have e3 : ∀ m, imp m r = ed m r := by
   intro m
   cases r <;> first | rfl | skip
   simp only [qE, ko] at h
  rw [e1] at hI
  rw [e2] at hF
  rw [e3, ← hI]
  exact x7 (k := 0) hs j_ h hr (fun j b hj => by rw [← hI, Nat.zero_add]; exact hj) hF
theorem rD {w w' : World} {F : Nat → Prop} {c' : Cx} {r r' : AV} {H' : AH} {v : Value} (n : Nat) (hF : ∀ cb, F cb → cb < w.heap.size) (cY : RA w' c' H' r' v) (hs : HS w' c' H' w.heap.size) (ev : Ev w ⟨F, fun _ => none⟩ [] w' c' H') (dD : Below w.heap.size w w') (h : Pack r r' H') :
 ∃ v' G, Ending.returned v = .returned v' ∧ Below w.heap.size w w' ∧ (∀ b cb, G b = some cb → n ≤ b) ∧
  RA w' ⟨F, G⟩ (List.replicate n .dead ++ (imp n r).2) (imp n r).1 v' ∧ HS w' ⟨F, G⟩ (List.replicate n .dead ++ (imp n r).2) w.heap.size := by
 obtain ⟨hp, Pp⟩ := h
 simp only [px, Bool.and_eq_true, decide_eq_true_eq, List.all_eq_true] at Pp
 obtain ⟨sj, Qe⟩ := Pp
 let I := owns r r'
 let G : Nat → Option Nat := fun b => if b < n then none else I[b - n]?.bind c'.G
 let Hn : AH := List.replicate n .dead ++ I.map (fun b => (H'.getD b .dead).re)
 have uH : ∀ b cb, G b = some cb → n ≤ b ∧ ∃ b', I[b - n]? = some b' ∧ c'.G b' = some cb := by
  intro b cb hg
  simp only [G] at hg
  split at hg
  ·cases hg
  ·rename_i eE
   rw [Option.bind_eq_some_iff] at hg
   obtain ⟨b', h1, h2⟩ := hg
   exact ⟨by omega, b', h1, h2⟩
 have iy : ∀ (k : Nat) b, I[k]? = some b → Hn[n + k]? = some (H'.getD b .dead).re := by
  intro k b hk
  simp only [Hn]
  rw [List.getElem?_append_right (by simp)]
  simp [hk]
 have DO : ∀ b cb ν, G b = some cb → Hn[b]? = some ν → ∃ b' bk, I[b - n]? = some b' ∧ c'.G b' = some cb ∧ H'[b']? = some bk ∧ ν = bk.re := by
  intro b cb ν hg hb
  obtain ⟨h1, b', h2, h3⟩ := uH b cb hg
  have := iy _ b' h2
  rw [show n + (b - n) = b by omega, hb] at this
  cases this
  have χ := hs.jB b' cb h3
  exact ⟨b', H'[b'], h2, h3, List.getElem?_eq_getElem χ, by simp [List.getD, χ]⟩
 have j_ : CN w' c' H' n I ⟨F, G⟩ Hn := by
  refine ⟨?_, ?_, ?_⟩
  ·rintro cb (hf | ⟨b, ν, hb, gZ, hg⟩)
   ·exact .inl (by rw [ev.F]; exact hf)
   ·obtain ⟨b', bk, h2, h3, h4, rfl⟩ := DO b cb ν hg hb
    exact .inr ⟨b', bk, h4, Ψ.K7 gZ, h3⟩
  ·rintro b Nv cb hg (hf | ⟨b2, ν, hb, gZ, kg⟩)
   ·have := hF cb hf; have := (hs.base b cb hg).1; omega
   ·obtain ⟨b', bk, h2, h3, h4, _⟩ := DO b2 cb ν kg hb
    have := hs.inj b b' cb hg h3
    subst this
    exact Nv (List.mem_of_getElem? h2)
  ·intro k b ν hk hb
   refine ⟨by rw [iy k b hk]; simp [List.getD, hb], ?_⟩
   simp only [G]
   rw [if_neg (by omega), show n + k - n = k by omega, hk]
   rfl
 have OH : ∀ b ∈ vm H' r r', b ∉ I := fun b hb Nv => by
  have := Qe b Nv
  simp at this
  exact this hb
 obtain ⟨ra, himp⟩ := Ir hs j_ hp cY rfl OH
 have wB : Hn = List.replicate n .dead ++ (imp n r).2 := by rw [himp]
 have Kn : Below w.heap.size w w' := dD
 refine ⟨v, G, rfl, Kn, fun b cb hg => (uH b cb hg).1, by rw [← wB]; exact ra, ?_⟩
 rw [← wB]
 refine ⟨fun b b' cb h h' => ?_, fun b cb h => ?_, fun cb hf => ⟨Nat.lt_of_lt_of_le (hF cb hf) Kn.size, fun b hg => by obtain ⟨h1, b1, h2, h3⟩ := uH b cb hg; have := (hs.base b1 cb h3).1; have := hF cb hf; omega⟩, hs.hB, fun b cb h => ?_, fun b cb cells hb hg => ?_, fun b cb e s z g l hb hg => ?_, fun b cb s p hb hg => ?_⟩
 ·obtain ⟨h1, b1, h2, h3⟩ := uH b cb h
  obtain ⟨h4, b2, h5, h6⟩ := uH b' cb h'
  have := hs.inj b1 b2 cb h3 h6
  subst this
  have := (List.getElem?_inj (i := b - n) (j := b' - n) (ι h2) sj).1 (h2.trans h5.symm)
  omega
 ·obtain ⟨h1, b1, h2, h3⟩ := uH b cb h
  exact hs.base b1 cb h3
 ·obtain ⟨h1, b1, h2, h3⟩ := uH b cb h
  have := ι h2
  simp [Hn]; omega
 ·have fe := la n r
  rw [List.all_eq_true] at fe
  obtain ⟨h1, b1, h2, h3⟩ := uH b cb hg
  rw [wB, List.getElem?_append_right (by simpa using h1)] at hb
  have := fe _ (List.mem_of_getElem? hb)
  simp [Ψ.nQ] at this
 ·have fe := la n r
  rw [List.all_eq_true] at fe
  obtain ⟨h1, b1, h2, h3⟩ := uH b cb hg
  have aC := hb
  rw [wB, List.getElem?_append_right (by simpa using h1)] at aC
  have pe := fe _ (List.mem_of_getElem? aC)
  obtain ⟨b', bk, h2, h3, h4, F9⟩ := DO b cb _ hg hb
  have : ∃ g', bk = .arr e s z g' l ∧ g = 0 := by
   cases bk with
   | arr e1 s1 z1 g1 l1 => simp [Ψ.re] at F9; obtain ⟨rfl, rfl, rfl, ti, rfl⟩ := F9; exact ⟨_, rfl, ti⟩
   | box => simp [Ψ.re] at F9
   | dead => simp [Ψ.re] at F9
   | iter => simp [Ψ.re] at F9
  obtain ⟨g', rfl, ti⟩ := this
  obtain ⟨arr, cap, a1, a2, a3, a4, a5⟩ := hs.arr b' cb e s z g' l h4 h3
  cases l with
  | vs l => simp [Ψ.nQ] at pe
  | ts l =>
   refine ⟨arr, cap, a1, a2, ⟨a3.1, by omega⟩, a4, dh.ts.2 fun i x hi => ⟨(dh.ts.1 a5 i x hi).1, fun j y hj => ?_⟩⟩
   obtain ⟨q, q1, q2, q3, q4⟩ := (dh.ts.1 a5 i x hi).2 j y hj
   exact ⟨q, q1, q2, q3.mono fun b _ hb => ⟨rfl, fun hm => hb (j_.tp b hm)⟩, q4⟩
 ·have fe := la n r
  rw [List.all_eq_true] at fe
  obtain ⟨h1, b1, h2, h3⟩ := uH b cb hg
  rw [wB, List.getElem?_append_right (by simpa using h1)] at hb
  have := fe _ (List.mem_of_getElem? hb)
  simp [Ψ.nQ] at this
theorem φ.Λ {P : Program} {f : FuncId} {ts : List T} {r : AV} (h : γ P f (ts.map .t) [] (Pack r)) (hn : aL r = true) : φ P f ts r := by
 refine ⟨hn, fun n F w vs hF hl hr => ?_⟩
 have ke : HS w ⟨F, fun _ => none⟩ [] w.heap.size := ⟨by simp, by simp, fun cb hf => ⟨hF cb hf, fun b hb => by cases hb⟩, Nat.le_refl _, by simp, by simp, by simp, by simp⟩
 have lg : ∀ cb, (Cx.mk F fun _ => none).M [] cb → F cb := by
  rintro cb (h | ⟨b, ν, hb, _⟩)
  ·exact h
  ·simp at hb
 refine (h w.heap.size ⟨F, fun _ => none⟩ w vs ke (by simpa using hl) (ov fun i x v hi hv => (hr i x v hi hv).mono fun b _ hb => ⟨rfl, fun hm => hb (lg b hm)⟩)).mono ?_
 rintro e w' ⟨v, c', r', H', rfl, cY, hs, ev, dD, hp⟩
 exact rD n hF cY hs ev dD hp
end Go.Proofs.YtcogcbplmkcojaaGreatDoor
namespace Go.Proofs.YtcogcbplmkcojaaGreatDoor
set_option linter.unusedVariables false
def zk (env : List (Nat × AV)) : List (Nat × AV) → Prop
 | [] => True
 | (t, v) :: r => lk env t = v ∧ zk env r
theorem Bq {env : List (Nat × AV)} : ∀ {env' : List (Nat × AV)}, zk env env' → ∀ t, lk env' t = .bj ∨ lk env' t = lk env t
 | [], _, t => .inl rfl
 | (d, v) :: r, h, t => by
  rw [e9]
  by_cases e : d = t
  ·rw [if_pos e, ← e, h.1]; exact .inr rfl
  ·rw [if_neg e]; exact Bq h.2 t
theorem a8 {k0 : Nat} {s s' : St} (h : zk s.env s'.env) (hH : s.H = s'.H) : aX k0 s s' := by
 intro O c a w _ hs
 refine ⟨c, fun t => ?_, hH ▸ hs.hs, hs.size, hs.defers, hH ▸ hs.ev, hs.below⟩
 rw [← hH]
 rcases Bq h t with e | e
 ·rw [e]; exact .bj _
 ·rw [e]; exact hs.env t
theorem aX.refl {k0 : Nat} (s : St) : aX k0 s s := fun O c a w _ hs => ⟨c, hs⟩
theorem aX.trans {k0 : Nat} {s1 s2 s3 : St} (h : aX k0 s1 s2) (h2 : aX k0 s2 s3) : aX k0 s1 s3 := fun O c a w hk hs => by
 obtain ⟨c', aF⟩ := h O c a w hk hs
 exact h2 O c' a w hk aF
theorem ak {k0 : Nat} {body : (Ex → St → Prop) → St → Prop} {Q : Ex → St → Prop} {s : St} {A : Type} (I : A → Prop) (S : A → St) (μ : A → Nat) (i : A) (hi : I i)
 (h0 : aX k0 s (S i)) (h : ∀ i, I i → body (fun e s' => match e with | .normal => ∃ j : {a // I a}, aX k0 s' (S j.1) ∧ μ j.1 < μ i | e => Q e s') (S i)) : uq k0 body Q s :=
 ⟨0, {a : A // I a}, fun a => S a.1, fun a => μ a.1, ⟨i, hi⟩, h0, fun ⟨i, hi⟩ => h i hi⟩
end Go.Proofs.YtcogcbplmkcojaaGreatDoor
namespace Go.Proofs.YtcogcbplmkcojaaGreatDoor
open Go.RowKit
set_option linter.unusedVariables false
inductive GF (n : Nat) : AV → Prop
 | t (x) (h : gS x = true) : GF n (.t x)
 | sl (b g i l) (h : n ≤ b) : GF n (.sl b g i l)
 | agg (cs) (h : ∀ (i : Nat) x, cs[i]? = some x → GF n x) : GF n (.agg cs)
 | ao (cs) (h : ∀ (i : Nat) x, cs[i]? = some x → GF n x) : GF n (.ao cs)
 | bj : GF n .bj
theorem GF.le {n m : Nat} (Ga : m ≤ n) {x : AV} (h : GF n x) : GF m x := by
 induction h with
 | t x h => exact .t x h
 | sl b g i l h => exact .sl b g i l (by omega)
 | agg cs _ ih => exact .agg cs ih
 | ao cs _ ih => exact .ao cs ih
 | bj => exact .bj
def wX : Ψ → Prop
 | .arr _ _ _ _ (.ts l) => ∀ x ∈ l, gS x = true
 | _ => False
theorem Cg {n : Nat} {x : AV} (h : D_ x) : GF n (fS n x).1 ∧ ∀ b ∈ (fS n x).2, wX b := by
 cases x with
 | t x => exact ⟨.t _ h, by simp [fS]⟩
 | own e s z l => exact ⟨.sl _ _ _ _ (Nat.le_refl _), by simp only [fS, List.mem_singleton]; rintro b rfl; exact h⟩
 | bj => exact ⟨.bj, by simp [fS]⟩
 | _ => exact h.elim
theorem Cc : ∀ {l : List AV} {n : Nat}, zi l → (∀ (i : Nat) x, (gf n l).1[i]? = some x → GF n x) ∧ ∀ b ∈ (gf n l).2, wX b
 | [], n, _ => by simp [gf]
 | a :: r, n, h => by
  obtain ⟨h1, h2⟩ := Cg (n := n) h.1
  obtain ⟨h3, h4⟩ := Cc (l := r) (n := n + (fS n a).2.length) h.2
  refine ⟨fun i x hi => ?_, fun b hb => ?_⟩
  ·simp only [gf] at hi
   cases i with
   | zero => simp at hi; subst hi; exact h1
   | succ i => simp at hi; exact (h3 i x hi).le (Nat.le_add_right _ _)
  ·simp only [gf, List.mem_append] at hb
   exact hb.elim (h2 b) (h4 b)
theorem Ce {n : Nat} {x : AV} (h : D9 x) : GF n (ed n x).1 ∧ ∀ b ∈ (ed n x).2, wX b := by
 cases x with
 | agg cs => obtain ⟨h1, h2⟩ := Cc (n := n) (show zi cs from h); exact ⟨.agg _ h1, h2⟩
 | _ => exact Cg h
theorem Au : ∀ {l : List AV} {n : Nat}, wW l → (∀ (i : Nat) x, (dg n l).1[i]? = some x → GF n x) ∧ ∀ b ∈ (dg n l).2, wX b
 | [], n, _ => by simp [dg]
 | a :: r, n, h => by
  obtain ⟨h1, h2⟩ := Ce (n := n) h.1
  obtain ⟨h3, h4⟩ := Au (l := r) (n := n + (ed n a).2.length) h.2
  refine ⟨fun i x hi => ?_, fun b hb => ?_⟩
  ·simp only [dg] at hi
   cases i with
   | zero => simp at hi; subst hi; exact h1
   | succ i => simp at hi; exact (h3 i x hi).le (Nat.le_add_right _ _)
  ·simp only [dg, List.mem_append] at hb
   exact hb.elim (h2 b) (h4 b)
theorem Aq {n : Nat} {x : AV} (h : Flat x) : GF n (imp n x).1 ∧ ∀ b ∈ (imp n x).2, wX b := by
 cases x with
 | ao cs => obtain ⟨h1, h2⟩ := Au (n := n) (show wW cs from h); exact ⟨.ao _ h1, h2⟩
 | _ => exact Ce h
theorem RA.zJ {w : World} {c1 c2 : Cx} {H1 H2 : AH} {n : Nat} (hH : ∀ b, n ≤ b → H1[b]? = H2[b]?) (hG : ∀ b, n ≤ b → c1.G b = c2.G b)
 {x : AV} {v : Value} (h : RA w c1 H1 x v) (hx : GF n x) : RA w c2 H2 x v := by
 induction h with
 | t x v h => cases hx with | t _ hx => exact .t x v (Jq h hx)
 | sl b g i len v ν hb hm hv =>
  cases hx with | sl _ _ _ _ hn =>
  refine .sl b g i len v ν (by rw [← hH b hn]; exact hb) ?_ hv
  cases ν with
  | dead => trivial
  | box => exact hm
  | iter => exact hm
  | arr => rw [← hG b hn]; exact hm
 | agg cs vs hl h1 _ ih => cases hx with | agg _ hx => exact .agg cs vs hl h1 fun i x v hi hv => ih i x v hi hv (hx i x hi)
 | ao cs vs hl _ ih => cases hx with | ao _ hx => exact .ao cs vs hl fun i x v hi hv => ih i x v hi hv (hx i x hi)
 | bj v => exact .bj v
 | _ => cases hx
def DZ (H : AH) (args : List AV) : Option (List T) := (gv 32 H args).map Prod.fst
theorem γ.C1 {P : Program} {f : FuncId} {args : List AV} {ts : List T} {r : AV} {H : AH} {Q : AV → AH → Prop} (h : φ P f ts r) (ha : DZ H args = some ts) (hf : Flat r) (k : Q (imp H.length r).1 (H ++ (imp H.length r).2)) :
 γ P f args H Q := by
 intro B c w vs hs hl hr
 simp only [DZ, Option.map_eq_some_iff] at ha
 obtain ⟨⟨l, ids⟩, F8, rfl⟩ := ha
 obtain ⟨hlen, iu⟩ := mn hs (M' := fun _ => False) (fun _ h => h.elim) 32 F8 (vs := vs.toList) (by simpa using hl.symm) (fun i x v hi hv => hr i x v hi (by simpa using hv)) (fun _ _ _ _ h => h)
 refine (h.2 H.length (fun _ => False) w vs (fun cb h => h.elim) (by simp only; omega) (fun i t v hi hv => iu i t v hi (by simpa using hv))).mono fun e w' ⟨v, G, he, dD, hG, cY, aF⟩ => ?_
 obtain ⟨g1, g2⟩ := Aq (n := H.length) hf
 obtain ⟨ev, fa⟩ := join (Hb := (imp H.length r).2) hs dD hG aF (la _ _) (fun b e s z g l i x j y v hb hi hj iu => by
  have := g2 _ (List.mem_of_getElem? hb) x (List.mem_of_getElem? hi)
  exact rT iu (qt this j y hj))
 refine ⟨v, _, _, _, he, ?_, fa, ev, dD.mono hs.hB, k⟩
 exact cY.zJ (n := H.length) (fun b hb => kV rfl hb) (fun b hb => by simp only [if_neg (Nat.not_lt.2 hb)]) g1
theorem φ.calls {P : Program} {f : FuncId} {ts : List T} {b : Bool} (h : φ P f ts (.t (.bool b))) (Np : Bv P f) {w : World} {vs : Array Value} (hl : vs.size = ts.length)
 (hr : ∀ (i : Nat) t v, ts[i]? = some t → vs[i]? = some v → RT w (fun _ => False) t v) : Calls P f vs w fun e w' => e = .returned (.bool b) ∧ Below w.heap.size w w' := by
 have key := h.2 0 (fun _ => False) w vs (fun _ h => h.elim) hl hr
 have key := key.mono (Q' := fun e w' => e = .returned (.bool b) ∧ Below w.heap.size w w') fun e w' ⟨v, G, he, dD, hG, cY, hs⟩ => by
  obtain rfl := cY.bool
  exact ⟨he, dD⟩
 rcases key with key | ⟨v, w', h1, _⟩
 ·exact key.2
 ·rw [sE Np] at h1
  cases h1
end Go.Proofs.YtcogcbplmkcojaaGreatDoor
namespace Go.Proofs.YtcogcbplmkcojaaGreatDoor
set_option linter.unusedVariables false
set_option linter.unusedSimpArgs false
def Le (H H' : AH) : Prop := ∀ (b : Nat) ν, H[b]? = some ν → ν = .dead ∨ H'[b]? = some ν
theorem Le.refl (H : AH) : Le H H := fun _ _ h => .inr h
theorem Le.trans {H H' Bu : AH} (h : Le H H') (k : Le H' Bu) : Le H Bu := fun b ν hb => (h b ν hb).elim .inl fun h => k b ν h
theorem Le.append (H X : AH) : Le H (H ++ X) := fun b ν hb => .inr (by rw [List.getElem?_append_left (ι hb)]; exact hb)
def dY : List Nat → AH → AH
 | [], H => H
 | b :: r, H => dY r (H.set b .dead)
theorem zL {H : AH} {b i : Nat} {ν : Ψ} (h : H[i]? = some ν) : (H.set b .dead)[i]? = some (if i = b then .dead else ν) := by
 have := ι h
 by_cases e : b = i
 ·subst e; simp [this]
 ·rw [List.getElem?_set_ne e, h, if_neg (fun h => e h.symm)]
theorem sg {H : AH} {b i : Nat} {ν : Ψ} (h : (H.set b .dead)[i]? = some ν) : ν = .dead ∨ (i ≠ b ∧ H[i]? = some ν) := by
 by_cases e : b = i
 ·subst e
  have hl := ι h
  simp only [List.length_set] at hl
  simp [hl] at h
  exact .inl h.symm
 ·rw [List.getElem?_set_ne e] at h
  exact .inr ⟨fun h => e h.symm, h⟩
theorem Le.Jd (H : AH) (b : Nat) : Le (H.set b .dead) H := fun _ _ h => (sg h).imp id (·.2)
theorem Le.dY : ∀ (D : List Nat) (H : AH), Le (dY D H) H
 | [], H => .refl H
 | b :: r, H => (Le.dY r (H.set b .dead)).trans (.Jd H b)
def ψ (D : List Nat) (H H' : AH) : Prop := Le (Go.Proofs.YtcogcbplmkcojaaGreatDoor.dY D H) H'
theorem vk : ∀ (D : List Nat) {H : AH} {i : Nat} {ν : Ψ}, H[i]? = some ν → (dY D H)[i]? = some (if i ∈ D then .dead else ν)
 | [], H, i, ν, h => by simpa [dY] using h
 | b :: r, H, i, ν, h => by
  simp only [dY]
  rw [vk r (zL h)]
  by_cases e : i = b
  ·subst e; simp
  ·simp [e]
theorem gR : ∀ (D : List Nat) {H : AH} {i : Nat} {ν : Ψ}, (dY D H)[i]? = some ν → ν = .dead ∨ (i ∉ D ∧ H[i]? = some ν)
 | [], H, i, ν, h => .inr ⟨by simp, h⟩
 | b :: r, H, i, ν, h => by
  simp only [dY] at h
  rcases gR r h with h | ⟨h1, h2⟩
  ·exact .inl h
  ·rcases sg h2 with h3 | ⟨h3, h4⟩
   ·exact .inl h3
   ·exact .inr ⟨by simp [h1, h3], h4⟩
theorem ψ.le {D : List Nat} {H H' : AH} (h : ψ D H H') : Le (Go.Proofs.YtcogcbplmkcojaaGreatDoor.dY D H) (Go.Proofs.YtcogcbplmkcojaaGreatDoor.dY D H') := fun b ν hb => by
 rcases gR D hb with e | ⟨hn, _⟩
 ·exact .inl e
 ·rcases h b ν hb with e | e
  ·exact .inl e
  ·have := vk D e
   rw [if_neg hn] at this
   exact .inr this
theorem ψ.refl (D : List Nat) (H : AH) : ψ D H H := .dY D H
theorem ψ.of {D : List Nat} {H H' : AH} (h : Le H H') : ψ D H H' := (Le.dY D H).trans h
theorem ψ.append (D : List Nat) (H X : AH) : ψ D H (H ++ X) := .of (.append H X)
theorem ψ.set {D : List Nat} {H : AH} {b : Nat} (ν : Ψ) (hb : b ∈ D) : ψ D H (H.set b ν) := fun i bk h => by
 rcases gR D h with e | ⟨hn, h⟩
 ·exact .inl e
 ·exact .inr (by rw [List.getElem?_set_ne (fun e => hn (by rw [← e]; exact hb))]; exact h)
def HH (tab : a9) (t : TypeId) (x : AV) (K : AV → Prop) : Prop :=
 aY (tab t) fun y => Ck (match y.d with | .interface _ => false | _ => true)
  (match x with | .t v => K (.t (.bY t v)) | v => K (.bY t v))
def kz (tab : a9) (o : Oper) (env : List (Nat × AV)) (H : AH) (K : AV → Prop) : Prop :=
 match o.op with
 | .move x => K (aI env x)
 | .pick c a b => tN (aI env c) (aI env a) (aI env b) K
 | .build t parts => qx tab t (parts.toList.map fun p => (p.1, aI env p.2)) K
 | .load t a => mO tab t H (aI env a) K
 | .nilCheck x => gE H (aI env x) K
 | .binOp op t x y _ => rf tab op t H (aI env x) (aI env y) (isConst y) fun v => K (.t v)
 | .unOp op _ x => BV tab.stop op (aI env x) fun v => K (.t v)
 | .convert s d x => iN tab s d (aI env x) H K
 | .slice t x lo hi mx => lm tab t H (aI env x) (lo.map (aI env)) (hi.map (aI env)) (mx.map (aI env)) K
 | .fieldAddr t x k => fZ tab t H (aI env x) k K
 | .field t x k => qw tab t (aI env x) k K
 | .indexAddr t x i => fY tab t H (aI env x) (aI env i) K
 | .index t x i => qv tab t (aI env x) (aI env i) K
 | .extract x i => mi (aI env x) i K
 | .makeInterface t x => HH tab t (aI env x) K
 | .makeFunc f first captured => K (.fn f (first.toList.map (aI env)) (captured.toList.map (aI env)))
 | .call c =>
  (match c.callee with
  | .builtin b =>
   (match b, c.argTypes.toList, c.args.toList with
   | .len, [t], [x] => rc tab t H (aI env x) K
   | .min, _, [x, y] => kX false (aI env x) (aI env y) K
   | .max, _, [x, y] => kX true (aI env x) (aI env y) K
   | _, _, _ => False)
  | _ => False)
 | _ => False
theorem HC {tab : a9} {call : jE} {o : Oper} {env : List (Nat × AV)} {H : AH} {K : AV → AH → Prop} (h : kz tab o env H fun v => K v H) : pz tab call o env H K := by
 unfold kz at h
 unfold pz
 generalize o.op = p at h ⊢
 cases p <;> first | exact h | exact h.elim | skip
 rename_i c
 simp only at h ⊢
 unfold vx
 generalize c.callee = cc at h ⊢
 cases cc <;> first | exact h.elim | skip
 rename_i b
 simp only at h ⊢
 split at h
 ·rename_i h1 h2; simp only [h1, h2]; exact h
 ·rename_i h2; simp only [h2]; exact h
 ·rename_i h2; simp only [h2]; exact h
 ·exact h.elim
section
variable {tab : a9} {H H' : AH}
theorem Lq (hl : Le H H') {x : AV} {n : Nat} (h : rM H x = some n) : rM H' x = some n := by
 cases x <;> first | exact h | skip
 ·rename_i m; cases m <;> exact h
 rename_i b g i m
 cases hb : H[b]? with
 | none => simp [rM, hb] at h
 | some ν =>
  rcases hl b ν hb with e | this
  ·subst e; simp [rM, hb, ap] at h
  ·simp only [rM, hb, this] at h ⊢; exact h
theorem I1 (hl : Le H H') {x : AV} {n : Bool} (h : isNil H x = some n) : isNil H' x = some n := by
 cases x <;> first | exact h | skip
 ·rename_i m; cases m <;> exact h
 all_goals
  rename_i b g i m
  cases hb : H[b]? with
  | none => simp [isNil, hb] at h
  | some ν =>
   rcases hl b ν hb with e | this
   ·subst e; simp [isNil, hb, ap] at h
   ·simp only [isNil, hb, this] at h ⊢; exact h
theorem HG (hl : Le H H') {ty : TypeId} {a : AV} {K : AV → Prop} (h : mO tab ty H a K) : mO tab ty H' a K := by
 unfold mO at h ⊢
 rw [Γ] at h ⊢
 obtain ⟨y, hy, h⟩ := h
 refine ⟨y, hy, ?_⟩
 cases a <;> first | exact h | exact h.elim | skip
 ·rename_i m; cases m <;> first | exact h | exact h.elim
 rename_i b g i m
 cases hb : H[b]? with
 | none => simp [hb] at h
 | some ν =>
  rcases hl b ν hb with e | this
  ·subst e; simp [hb, ap] at h
  ·simp only [hb, this] at h ⊢; exact h
theorem zq (hl : Le H H') {a : AV} {K : AV → Prop} (h : gE H a K) : gE H' a K := by
 cases a <;> first | exact h | exact h.elim | skip
 ·rename_i m; cases m <;> first | exact h | exact h.elim | skip
  rename_i f _ _; cases f <;> first | exact h | exact h.elim
 ·rename_i b g i m
  unfold gE at h ⊢
  cases hb : H[b]? with
  | none => simp [hb] at h
  | some ν =>
   rcases hl b ν hb with e | this
   ·subst e; simp [hb, ap] at h
   ·simp only [hb, this] at h ⊢; exact h
 ·rename_i f _ _; cases f <;> first | exact h | exact h.elim
theorem KN (hl : Le H H') {ty : TypeId} {a : AV} {K : AV → Prop} (h : rc tab ty H a K) : rc tab ty H' a K := by
 unfold rc at h ⊢
 rw [Γ] at h ⊢
 obtain ⟨y, hy, h⟩ := h
 refine ⟨y, hy, ?_⟩
 split at h
 ·exact h
 ·rw [ap, Γ] at h ⊢
  obtain ⟨h1, n, h2, h3⟩ := h
  exact ⟨h1, n, Lq hl h2, h3⟩
theorem y4 (hl : Le H H') {ty : TypeId} {a : AV} {k : Nat} {K : AV → Prop} (h : fZ tab ty H a k K) : fZ tab ty H' a k K := by
 unfold fZ at h ⊢
 simp only [Γ, ap] at h ⊢
 obtain ⟨y, hy, f, hf, z, hz, hk, h⟩ := h
 refine ⟨y, hy, f, hf, z, hz, hk, ?_⟩
 cases a <;> first | exact h | exact h.elim | skip
 ·rename_i m; cases m <;> first | exact h | exact h.elim
 rename_i b g i m
 cases hb : H[b]? with
 | none => simp [hb] at h
 | some ν =>
  rcases hl b ν hb with e | this
  ·subst e; simp [hb, ap] at h
  ·simp only [hb, this] at h ⊢; exact h
theorem yZ (hl : Le H H') {ty : TypeId} {a ix : AV} {K : AV → Prop} (h : fY tab ty H a ix K) : fY tab ty H' a ix K := by
 unfold fY at h ⊢
 rw [Γ] at h ⊢
 obtain ⟨y, hy, h⟩ := h
 refine ⟨y, hy, ?_⟩
 split at h
 ·rename_i k i
  cases hd : y.d <;> rw [hd] at h <;> first | exact h.elim | skip
  all_goals cases a <;> first | exact h | exact h.elim | skip
  all_goals try (rename_i m; cases m <;> first | exact h | exact h.elim; done)
  all_goals
   rename_i b g i m
   simp only [Γ] at h ⊢
   obtain ⟨z, hz, h⟩ := h
   refine ⟨z, hz, ?_⟩
   cases hb : H[b]? with
   | none => simp [hb, ap] at h
   | some ν =>
    rcases hl b ν hb with e | this
    ·subst e; simp [hb, ap] at h
    ·simp only [hb, this] at h ⊢; exact h
 ·exact h.elim
theorem Ef (hl : Le H H') {ty : TypeId} {a : AV} {lo hi mx : Option AV} {K : AV → Prop} (h : lm tab ty H a lo hi mx K) : lm tab ty H' a lo hi mx K := by
 unfold lm at h ⊢
 rw [Γ] at h ⊢
 obtain ⟨y, hy, h⟩ := h
 refine ⟨y, hy, ?_⟩
 split at h
 ·split at h
  ·rw [Γ] at h ⊢
   obtain ⟨z, hz, h⟩ := h
   refine ⟨z, hz, ?_⟩
   cases a <;> first | exact h | exact h.elim | skip
   ·rename_i m; cases m <;> first | exact h | exact h.elim
   rename_i b g i m
   cases hb : H[b]? with
   | none => simp [hb] at h
   | some ν =>
    rcases hl b ν hb with e | this
    ·subst e; simp [hb, ap] at h
    ·simp only [hb, this] at h ⊢; exact h
  ·exact h.elim
 ·split at h <;> first | exact h | exact h.elim | skip
  rename_i b g i m _
  simp only [Γ] at h ⊢
  obtain ⟨z, hz, h⟩ := h
  refine ⟨z, hz, ?_⟩
  cases hb : H[b]? with
  | none => simp [hb] at h
  | some ν =>
   rcases hl b ν hb with e | this
   ·subst e; simp [hb, ap] at h
   ·simp only [hb, this] at h ⊢; exact h
theorem El (hl : Le H H') {ty : TypeId} {x y : AV} {yc : Bool} {K : Bool → Prop} (h : sr tab ty H x y yc K) : sr tab ty H' x y yc K := by
 unfold sr at h ⊢
 rw [Γ] at h ⊢
 obtain ⟨i, hi, h⟩ := h
 refine ⟨i, hi, ?_⟩
 split at h
 ·exact h
 ·exact h
 ·simp only [ap, Γ] at h ⊢
  obtain ⟨h1, n, h2, h3⟩ := h
  exact ⟨h1, n, I1 hl h2, h3⟩
theorem KS (hl : Le H H') {op : BinOp} {ty : TypeId} {x y : AV} {yc : Bool} {K : T → Prop} (h : rf tab op ty H x y yc K) : rf tab op ty H' x y yc K := by
 unfold rf at h ⊢
 split at h
 ·exact h
 ·exact h
 ·split at h
  ·exact El hl h
  ·exact El hl h
  ·exact h.elim
theorem Bz (hl : Le H H') {s d : TypeId} {x : AV} {K : AV → Prop} (h : iN tab s d x H K) : iN tab s d x H' K := by
 unfold iN at h ⊢
 simp only [Γ] at h ⊢
 obtain ⟨y, hy, z, hz, h⟩ := h
 refine ⟨y, hy, z, hz, ?_⟩
 split at h <;> first | exact h | exact h.elim | skip
 rename_i b g i n _
 split at h <;> first | exact h.elim | skip
 obtain ⟨q, hq, h⟩ := h
 refine ⟨q, hq, ?_⟩
 split at h <;> first | exact h.elim | skip
 cases hb : H[b]? with
 | none => simp [hb] at h
 | some ν =>
  rcases hl b ν hb with e | this
  ·subst e; simp [hb, ap] at h
  ·simp only [hb, this] at h ⊢; exact h
theorem nu {env env' : List (Nat × AV)} : ∀ {ps : List (Nat × Operand)}, (∀ x ∈ ps.map (·.2), aI env x = aI env' x) → ps.map (fun p => (p.1, aI env p.2)) = ps.map fun p => (p.1, aI env' p.2)
 | [], _ => rfl
 | p :: r, h => by
  simp only [List.map_cons, List.mem_cons, forall_eq_or_imp] at h ⊢
  rw [h.1, nu h.2]
theorem oE {env env' : List (Nat × AV)} {o : Option Operand} (h : ∀ x ∈ o.toList, aI env x = aI env' x) : o.map (aI env) = o.map (aI env') := by
 cases o with
 | none => rfl
 | some x => simp at h; simp [h]
theorem q_ (hl : Le H H') {o : Oper} {env env' : List (Nat × AV)} {K : AV → Prop} (he : ∀ x ∈ o.op.operands.toList, aI env x = aI env' x) (h : kz tab o env H K) : kz tab o env' H' K := by
 unfold kz at h ⊢
 generalize o.op = p at h he ⊢
 cases p <;> simp only at h ⊢ <;> first | exact h.elim | skip
 case move x => rw [← he x (by simp [Op.operands])]; exact h
 case pick c a b => rw [← he c (by simp [Op.operands]), ← he a (by simp [Op.operands]), ← he b (by simp [Op.operands])]; exact h
 case build t ps => rw [← nu (env := env) (fun x hx => he x (by simpa [Op.operands] using hx))]; exact h
 case load t a => rw [← he a (by simp [Op.operands])]; exact HG hl h
 case nilCheck x => rw [← he x (by simp [Op.operands])]; exact zq hl h
 case binOp op t x y t2 => rw [← he x (by simp [Op.operands]), ← he y (by simp [Op.operands])]; exact KS hl h
 case unOp op t x => rw [← he x (by simp [Op.operands])]; exact h
 case convert t u x => rw [← he x (by simp [Op.operands])]; exact Bz hl h
 case slice t x lo hi mx =>
  rw [← he x (by simp [Op.operands]), ← oE (env := env) (o := lo) (fun x hx => he x (by simp [Op.operands] at hx ⊢; simp [hx])), ← oE (env := env) (o := hi) (fun x hx => he x (by simp [Op.operands] at hx ⊢; simp [hx])),
   ← oE (env := env) (o := mx) (fun x hx => he x (by simp [Op.operands] at hx ⊢; simp [hx]))]
  exact Ef hl h
 case fieldAddr t x k => rw [← he x (by simp [Op.operands])]; exact y4 hl h
 case field t x k => rw [← he x (by simp [Op.operands])]; exact h
 case indexAddr t x i => rw [← he x (by simp [Op.operands]), ← he i (by simp [Op.operands])]; exact yZ hl h
 case index t x i => rw [← he x (by simp [Op.operands]), ← he i (by simp [Op.operands])]; exact h
 case extract x i => rw [← he x (by simp [Op.operands])]; exact h
 case makeInterface t x => rw [← he x (by simp [Op.operands])]; exact h
 case makeFunc f a b =>
  have e1 : a.toList.map (aI env) = a.toList.map (aI env') := List.map_congr_left fun x hx => he x (by simp [Op.operands] at hx ⊢; simp [hx])
  have e2 : b.toList.map (aI env) = b.toList.map (aI env') := List.map_congr_left fun x hx => he x (by simp [Op.operands] at hx ⊢; simp [hx])
  rw [← e1, ← e2]; exact h
 case call c =>
  generalize hc : c.callee = cc at h ⊢
  cases cc <;> simp only at h ⊢ <;> first | exact h.elim | skip
  rename_i b
  have ha : ∀ x ∈ c.args.toList, aI env x = aI env' x := fun x hx => he x (by simp [Op.operands, Call.operands, hc] at hx ⊢; simp [hx])
  split at h
  ·rename_i h1 h2
   try simp only [h1, h2]
   rw [← ha _ (by rw [h2]; simp)]
   exact KN hl h
  ·rename_i h2
   try simp only [h2]
   rw [← ha _ (by rw [h2]; simp), ← ha _ (by rw [h2]; simp)]
   exact h
  ·rename_i h2
   try simp only [h2]
   rw [← ha _ (by rw [h2]; simp), ← ha _ (by rw [h2]; simp)]
   exact h
  ·exact h.elim
end
end Go.Proofs.YtcogcbplmkcojaaGreatDoor
namespace Go.Proofs.YtcogcbplmkcojaaGreatDoor
set_option linter.unusedVariables false
set_option linter.unusedSimpArgs false
structure en {α : Type} (f : (α → Prop) → Prop) : Prop where
 mono : ∀ {K K' : α → Prop}, (∀ a, K a → K' a) → f K → f K'
 ex : ∀ {K : α → Prop}, f K → ∃ a, f (fun x => x = a) ∧ K a
section
variable {α β : Type}
theorem bF (x : α) : en fun K => K x := ⟨fun h k => h _ k, fun h => ⟨x, rfl, h⟩⟩
theorem ah : en fun K : α → Prop => False := ⟨fun _ h => h, fun h => h.elim⟩
theorem dZ {c : Bool} {f : (α → Prop) → Prop} (h : en f) : en fun K => Ck c (f K) := by
 cases c
 ·exact ah
 ·exact h
theorem N6 {c : Bool} {f g : (α → Prop) → Prop} (h : en f) (k : en g) : en fun K => Br c (f K) (g K) := by
 cases c
 ·exact k
 ·exact h
theorem bL {o : Option β} {f : β → (α → Prop) → Prop} (h : ∀ a, en (f a)) : en fun K => aY o fun a => f a K := by
 cases o
 ·exact ah
 ·exact h _
theorem OS {p : Prop} {f : (α → Prop) → Prop} (h : en f) : en fun K => p ∧ f K :=
 ⟨fun hk k => ⟨k.1, h.mono hk k.2⟩, fun k => by obtain ⟨a, h1, h2⟩ := h.ex k.2; exact ⟨a, ⟨k.1, h1⟩, h2⟩⟩
theorem qV {f : (β → Prop) → Prop} {g : β → (α → Prop) → Prop} (h : en f) (k : ∀ b, en (g b)) : en fun K => f fun b => g b K :=
 ⟨fun hk q => h.mono (fun b r => (k b).mono hk r) q, fun q => by
  obtain ⟨b, h1, h2⟩ := h.ex q
  obtain ⟨a, h3, h4⟩ := (k b).ex h2
  exact ⟨a, h.mono (fun x e => by subst e; exact h3) h1, h4⟩⟩
theorem nd {f : (β → Prop) → Prop} (g : β → α) (h : en f) : en fun K => f fun b => K (g b) := qV h fun b => bF (g b)
theorem xF {l : List T} {g : List UInt8 → α} : en fun K => ∃ bs : List UInt8, l = bs.map (fun b => T.int .u8 (b.toNat : Int)) ∧ K (g bs) :=
 ⟨fun hk ⟨bs, h1, h2⟩ => ⟨bs, h1, hk _ h2⟩, fun ⟨bs, h1, h2⟩ => ⟨g bs, ⟨bs, h1, rfl⟩, h2⟩⟩
end
section
variable {tab : a9} {H : AH}
theorem ue {y : gq} {cells : List T} {o : Nat} : en (mY y cells o) := by
 unfold mY
 cases y.isAgg
 ·exact bL fun a => bF a
 ·exact dZ (bF _)
theorem uf {y : gq} {cells : List AV} {o : Nat} : en (mZ y cells o) := by
 unfold mZ
 cases y.isAgg
 ·exact bL fun a => bF a
 ·exact dZ (bF _)
theorem N5 {ty : TypeId} {a : AV} : en (mO tab ty H a) := by
 unfold mO
 refine bL fun y => ?_
 cases a <;> first | exact ah | skip
 ·rename_i m; cases m <;> first | exact ah | exact nd _ ue
 ·rename_i b g i o
  simp only
  cases H[b]? with
  | none => exact ah
  | some ν =>
   cases ν
   ·exact ah
   ·exact uf
   ·rename_i l
    cases l
    ·exact dZ (bL fun e => nd _ ue)
    ·exact dZ (bL fun e => uf)
   ·exact ah
theorem N4 {c a b : AV} : en (tN c a b) := by
 unfold tN
 cases c <;> first | exact ah | skip
 rename_i m; cases m <;> first | exact ah | skip
 rename_i c
 simp only
 split
 ·exact bF _
 ·exact N6 (bF _) (bF _)
theorem A_ {place : Nat → Option (Nat × Nat)} : ∀ {parts : List (Nat × AV)} {cells : List AV}, en (tO place cells parts)
 | [], cells => bF _
 | (k, v) :: r, cells => bL fun p => dZ (A_ (parts := r))
theorem LJ {ty : TypeId} {parts : List (Nat × AV)} : en (qx tab ty parts) := by
 unfold qx
 refine bL fun y => bL fun zs => dZ ?_
 cases y.d <;> first | exact ah | skip
 ·exact bL fun z => A_
 ·exact dZ A_
theorem DV {x : AV} : en (gE H x) := by
 unfold gE
 cases x <;> first | exact ah | skip
 ·rename_i m; cases m <;> first | exact ah | exact bF _ | skip
  rename_i f _ _; cases f <;> first | exact ah | exact bF _
 ·rename_i b g i o
  simp only
  cases H[b]? with
  | none => exact ah
  | some ν =>
   cases ν
   ·exact ah
   ·exact bF _
   ·exact dZ (bF _)
   ·exact ah
 ·rename_i f _ _; cases f <;> first | exact ah | exact bF _
theorem OP {st : Bool} {op : BinOp} {k k' : IntKind} {a b : Int} : en (zt st op k a k' b) := by
 unfold zt
 cases op <;> first | exact dZ (bF _) | exact dZ (bL fun n => bF _) | exact dZ (dZ (bL fun n => bF _))
theorem ON {op : BinOp} {a b : List UInt8} : en (zl op a b) := by
 unfold zl
 cases op <;> first | exact ah | exact bF _ | exact dZ (bF _)
theorem Qk {ty : TypeId} {x y : AV} {yc : Bool} : en (sr tab ty H x y yc) := by
 unfold sr
 refine bL fun i => ?_
 have other : ∀ c o, en fun K : Bool → Prop => Ck c (aY o K) := fun c o => dZ (bL fun a => bF a)
 cases x <;> first | exact other _ _ | skip
 rename_i x
 cases x <;> first | exact other _ _ | skip
 ·cases y <;> first | exact other _ _ | skip
  rename_i y; cases y <;> first | exact other _ _ | exact dZ (bF _)
 ·cases y <;> first | exact other _ _ | skip
  rename_i y; cases y <;> first | exact other _ _ | skip
  simp only
  cases i.d <;> first | exact ah | exact OS (bL fun a => bF a)
theorem OR {op : BinOp} {ty : TypeId} {x y : AV} {yc : Bool} : en (rf tab op ty H x y yc) := by
 unfold rf
 have other : en fun K : T → Prop => (match op with
  | .eql => sr tab ty H (iR x) (iR y) yc fun b => K (.bool b)
  | .neq => sr tab ty H (iR x) (iR y) yc fun b => K (.bool (!b))
  | _ => False) := by
  cases op <;> first | exact ah | exact nd _ Qk
 cases x <;> first | exact other | skip
 rename_i x
 cases x <;> first | exact other | skip
 ·cases y <;> first | exact other | skip
  rename_i y; cases y <;> first | exact other | exact OP
 ·cases y <;> first | exact other | skip
  rename_i y; cases y <;> first | exact other | exact ON
theorem Qj {st : Bool} {op : UnOp} {x : AV} : en (BV st op x) := by
 unfold BV
 cases op <;> cases x <;> first | exact ah | skip
 all_goals rename_i x; cases x <;> first | exact ah | exact bF _ | exact bL fun n => bF _
theorem LI {ty : TypeId} {a : AV} {k : Nat} : en (qw tab ty a k) := by
 unfold qw
 refine bL fun y => bL fun f => bL fun z => ?_
 cases a <;> first | exact ah | exact uf | skip
 rename_i m; cases m <;> first | exact ah | exact nd _ ue
theorem BQ {ty : TypeId} {a : AV} {k : Nat} : en (fZ tab ty H a k) := by
 unfold fZ
 refine bL fun y => bL fun f => bL fun z => dZ ?_
 cases a <;> first | exact ah | skip
 ·rename_i m; cases m <;> first | exact ah | exact bF _
 ·rename_i b g i o
  simp only
  cases H[b]? with
  | none => exact ah
  | some ν =>
   cases ν
   ·exact ah
   ·exact bF _
   ·exact dZ (bF _)
   ·exact ah
theorem BP {ty : TypeId} {a ix : AV} : en (fY tab ty H a ix) := by
 unfold fY
 refine bL fun y => ?_
 cases ix <;> first | exact ah | skip
 rename_i ix; cases ix <;> first | exact ah | skip
 simp only
 cases y.d <;> cases a <;> first | exact ah | skip
 ·rename_i m; cases m <;> first | exact ah | exact bL fun z => dZ (bL fun x => bF _)
 ·rename_i b g i o
  refine bL fun z => ?_
  cases H[b]? with
  | none => exact ah
  | some ν => cases ν <;> first | exact ah | exact dZ (bF _)
 ·rename_i m; cases m <;> first | exact ah | exact bL fun z => dZ (bF _)
 ·rename_i b g i o
  refine bL fun z => dZ ?_
  cases H[b]? with
  | none => exact ah
  | some ν => cases ν <;> first | exact ah | exact bF _ | exact dZ (bF _)
theorem LH {ty : TypeId} {a ix : AV} : en (qv tab ty a ix) := by
 unfold qv
 refine bL fun y => ?_
 cases ix <;> first | exact ah | skip
 rename_i ix; cases ix <;> first | exact ah | skip
 simp only
 cases y.d <;> cases a <;> first | exact ah | exact bL fun z => dZ uf | skip
 all_goals rename_i m; cases m <;> first | exact ah | exact dZ (bL fun x => bF _) | exact bL fun z => dZ (nd _ ue)
theorem lh {v : Option AV} {Jx mz : Nat} : en (fC v Jx mz) := by
 unfold fC
 cases v with
 | none => exact bF _
 | some v =>
  cases v <;> first | exact ah | skip
  rename_i m; cases m <;> first | exact ah | exact dZ (bF _)
theorem LG {ty : TypeId} {a : AV} {lo hi mx : Option AV} : en (lm tab ty H a lo hi mx) := by
 unfold lm
 refine bL fun y => ?_
 cases mx with
 | none =>
  simp only
  cases y.d <;> cases a <;> first | exact ah | skip
  ·rename_i m; cases m <;> first | exact ah | exact qV lh fun h => nd _ lh
  ·rename_i m; cases m <;> first | exact ah | exact bL fun z => dZ (qV lh fun h => nd _ lh) | exact bL fun z => qV lh fun h => qV lh fun _ => bF _
  ·rename_i b g i o
   refine bL fun z => ?_
   cases H[b]? with
   | none => exact ah
   | some ν => cases ν <;> first | exact ah | exact dZ (qV lh fun h => nd _ lh)
 | some m =>
  simp only
  split
  ·refine bL fun z => ?_
   cases a <;> first | exact ah | exact bF _ | skip
   ·rename_i m; cases m <;> first | exact ah | exact bF _
   ·rename_i b g i o
    simp only
    cases H[b]? with
    | none => exact ah
    | some ν => cases ν <;> first | exact ah | exact dZ (N6 (bF _) (bF _))
  ·exact ah
theorem GW {s d : TypeId} {x : AV} : en (iN tab s d x H) := by
 unfold iN
 refine bL fun y => bL fun w => ?_
 cases y.d <;> cases x <;> first | exact ah | skip
 ·rename_i m; cases m <;> first | exact ah | exact bL fun n => bF _
 ·rename_i m; cases m <;> first | exact ah | exact bF _ | skip
  ·simp only
   cases w.d <;> first | exact ah | skip
   refine bL fun z => ?_
   cases z.d <;> first | exact ah | skip
   rename_i k; cases k <;> first | exact ah | exact bF _
  ·simp only
   cases w.d <;> first | exact ah | skip
   refine bL fun z => ?_
   cases z.d <;> first | exact ah | skip
   rename_i k; cases k <;> first | exact ah | exact dZ xF
  ·simp only
   cases w.d <;> first | exact ah | skip
   refine bL fun z => ?_
   cases z.d <;> first | exact ah | skip
   rename_i k; cases k <;> first | exact ah | exact dZ xF
 ·rename_i b g i o
  simp only
  cases w.d <;> first | exact ah | skip
  refine bL fun z => ?_
  cases z.d <;> first | exact ah | skip
  rename_i k; cases k <;> first | exact ah | skip
  simp only
  cases H[b]? with
  | none => exact ah
  | some ν =>
   cases ν <;> first | exact ah | skip
   rename_i l; cases l <;> first | exact ah | exact dZ xF
theorem OO {ty : TypeId} {x : AV} : en (rc tab ty H x) := by
 unfold rc
 refine bL fun y => ?_
 have other : ∀ c o, en fun K : AV → Prop => Ck c (aY o fun n : Nat => K (.t (.int .i64 n))) := fun c o => dZ (bL fun a => bF _)
 cases hd : y.d <;> first | exact bF _ | exact other _ _
theorem A9 {mx : Bool} {x y : AV} : en (kX mx x y) := by
 unfold kX
 cases x <;> first | exact ah | skip
 rename_i x; cases x <;> first | exact ah | skip
 cases y <;> first | exact ah | skip
 rename_i y; cases y <;> first | exact ah | exact dZ (bF _)
theorem GV {x : AV} {i : Nat} : en (mi x i) := by
 unfold mi
 cases x <;> first | exact ah | exact bL fun a => bF a
theorem OQ {t : TypeId} {x : AV} : en (HH tab t x) := by
 unfold HH
 refine bL fun y => dZ ?_
 cases x <;> exact bF _
theorem GU {o : Oper} {env : List (Nat × AV)} : en (kz tab o env H) := by
 unfold kz
 cases o.op <;> first | exact ah | exact bF _ | exact N4 | exact LJ | exact N5 | exact DV | exact nd _ OR | exact nd _ Qj | exact GW | exact LG | exact BQ | exact LI | exact BP | exact LH | exact GV | exact OQ | skip
 rename_i c
 simp only
 cases c.callee <;> first | exact ah | skip
 simp only
 split
 ·exact OO
 ·exact A9
 ·exact A9
 ·exact ah
end
end Go.Proofs.YtcogcbplmkcojaaGreatDoor
namespace Go.Proofs.YtcogcbplmkcojaaGreatDoor
open Go.RowKit
set_option linter.unusedVariables false
set_option linter.unusedSimpArgs false
def zM : Operand → Operand → Bool
 | .tmp a, .tmp b => Nat.beq a b
 | _, _ => false
def gW (o : Oper) : Bool :=
 match o.op with
 | .alloc _ => true
 | .box _ _ => true
 | .buildSlice _ _ _ => true
 | .makeSlice _ l c => zM l c
 | _ => false
def mN (tab : a9) (o : Oper) (env : List (Nat × AV)) (K : (Nat → AV) → Ψ → Prop) : Prop :=
 match o.op with
 | .alloc e => aY (tab e) fun y => aY y.zero fun zs => Ck (zs.all T.one && Nat.beq zs.length y.size)
  (match Nat.ble 300 y.size with | true => K (fun n => .ptr n 0 0 0) (.arr e y.size false 0 (.ts [.agg zs])) | false => K (fun n => .ptr n 0 0 0) (.box (zs.map .t)))
 | .box e x => Ck ((aI env x).cells.all AV.one) (K (fun n => .ptr n 0 0 0) (.box (aI env x).cells))
 | .buildSlice t len parts => aY (tab t) fun y =>
  match y.d with
  | .slice e => aY (tab e) fun z => aY (na z.size 0 (parts.toList.map fun p => (p.1, aI env p.2))) fun l =>
   Ck (Nat.beq l.length len && Nat.ble 1 z.size && Nat.ble (len * z.size) 16777216 && z.zero.isSome) (K (fun n => .sl n 0 0 len) (.arr e z.size false 0 (mQ l)))
  | _ => False
 | .makeSlice t l c => aY (tab t) fun y =>
  match y.d, aI env l, aI env c with
  | .slice e, .t (.int _ n), .t (.int _ cc) => aY (tab e) fun z => aY z.zero fun zs =>
   Ck (decide (0 ≤ n) && decide (n ≤ cc) && decide (cc * (z.bytes : Int) ≤ 140737488355328) && decide (cc ≤ 9223372036854775807) && Nat.ble 1 z.size && Nat.beq zs.length z.size && zs.all T.one)
    (Ck (decide (n = cc)) (K (fun m => .sl m 0 0 n.toNat) (.arr e z.size false 0 (.ts (List.replicate n.toNat (dV z.size zs))))))
  | _, _, _ => False
 | _ => False
theorem HE {tab : a9} {call : jE} {o : Oper} {env : List (Nat × AV)} {H : AH} {K : AV → AH → Prop} (hm : gW o = true) (h : pz tab call o env H K) :
 ∃ mk ν, mN tab o env (fun m b => m = mk ∧ b = ν) ∧ K (mk H.length) (H ++ [ν]) := by
 unfold pz at h
 unfold mN
 unfold gW at hm
 generalize o.op = p at h hm ⊢
 cases p <;> simp only at hm h ⊢ <;> first | (cases hm; done) | skip
 ·simp only [Γ, ap] at h ⊢
  obtain ⟨y, hy, zs, hz, hc, k⟩ := h
  split at k
  ·next hb => exact ⟨_, _, ⟨y, hy, zs, hz, hc, by rw [hb]; exact ⟨rfl, rfl⟩⟩, k⟩
  ·next hb => exact ⟨_, _, ⟨y, hy, zs, hz, hc, by rw [hb]; exact ⟨rfl, rfl⟩⟩, k⟩
 ·simp only [ap] at h ⊢
  exact ⟨_, _, ⟨h.1, rfl, rfl⟩, h.2⟩
 ·unfold mP at h
  rw [Γ] at h
  obtain ⟨y, hy, h⟩ := h
  split at h
  ·rename_i e he
   simp only [Γ, ap] at h ⊢
   obtain ⟨z, hz, l, hl, hc, k⟩ := h
   refine ⟨fun n => .sl n 0 0 _, _, ⟨y, hy, ?_⟩, k⟩
   rw [he]
   simp only [Γ, ap]
   exact ⟨z, hz, l, hl, hc, trivial, rfl⟩
  ·exact h.elim
 ·rename_i t l cp
  unfold ol at h
  have Rk : aI env cp = aI env l := by
   cases l <;> cases cp <;> simp only [zM] at hm <;> first | (cases hm; done) | skip
   rw [Nat.eq_of_beq_eq_true hm]
  rw [Rk] at h ⊢
  rw [Γ] at h
  obtain ⟨y, hy, h⟩ := h
  generalize hv : aI env l = v at h ⊢
  split at h
  ·rename_i e k1 n k2 c2 he h2
   cases h2
   simp only [Γ, ap] at h
   obtain ⟨z, hz, zs, n_, hc, k⟩ := h
   rw [ku] at k
   rcases k with ⟨k0, _⟩ | ⟨_, k⟩
   ·simp at k0
   refine ⟨fun m => .sl m 0 0 n.toNat, _, Γ.2 ⟨y, hy, ?_⟩, k⟩
   rw [he]
   simp only [Γ, ap]
   exact ⟨z, hz, zs, n_, hc, by simp, trivial, rfl⟩
  ·exact h.elim
theorem sq {tab : a9} {o : Oper} {env env' : List (Nat × AV)} {K : (Nat → AV) → Ψ → Prop} (he : ∀ x ∈ o.op.operands.toList, aI env x = aI env' x) (h : mN tab o env K) : mN tab o env' K := by
 unfold mN at h ⊢
 generalize o.op = p at h he ⊢
 cases p <;> simp only at h ⊢ <;> first | exact h | skip
 case box t x => rw [← he x (by simp [Op.operands])]; exact h
 case buildSlice t n ps => rw [← nu (env := env) (fun x hx => he x (by simpa [Op.operands] using hx))]; exact h
 case makeSlice t a b => rw [← he a (by simp [Op.operands]), ← he b (by simp [Op.operands])]; exact h
inductive wY (w : World) (c : Cx) (H : AH) : (Nat → AV) → Ψ → Value → Obj → Prop
 | box (cells : List AV) (arr : Array Value) (e : TypeId) (hl : arr.size = cells.length)
  (hc : ∀ (j : Nat) x v, cells[j]? = some x → arr[j]? = some v → x.one = true ∧ RA w c H x v ∧ v.oneCell' = true) :
  wY w c H (fun n => .ptr n 0 0 0) (.box cells) (.pointer (some ⟨w.heap.size, 0, none⟩)) (.cells arr e (0, 0))
 | arr (e s len : Nat) (l : Sq) (arr : Array Value) (hl : arr.size = len * s) (hn : l.length = len) (hm : len ≤ maxLen) (hc : dh w c H s l arr) :
  wY w c H (fun n => .sl n 0 0 len) (.arr e s false 0 l) (.slice (some ⟨w.heap.size, 0, none⟩) len len) (.cells arr e (0, 0))
 | KD (e s : Nat) (x : T) (arr : Array Value) (hl : arr.size = s) (hc : dh w c H s (.ts [x]) arr) :
  wY w c H (fun n => .ptr n 0 0 0) (.arr e s false 0 (.ts [x])) (.pointer (some ⟨w.heap.size, 0, none⟩)) (.cells arr e (0, 0))
section
variable {P : Program} {tab : a9}
theorem Ov (hT : bi P tab) {o : Oper} {env : List (Nat × AV)} {K : (Nat → AV) → Ψ → Prop} (h : mN tab o env K) {w : World} {c : Cx} {H : AH} {a : Act} (he : ∀ t, RA w c H (lk env t) (a.tmps.getD t undef)) :
 ∃ mk ν val obj, (execOp a.eval o).run P w = .ok (.value val) (w.alloc obj) ∧ wY w c H mk ν val obj ∧ K mk ν := by
 unfold mN at h
 split at h
 ·rename_i e ho
  simp only [Γ, ap] at h
  obtain ⟨y, hy, zs, hz, hc, k⟩ := h
  simp only [Bool.and_eq_true] at hc
  obtain ⟨z, r, ir, _⟩ := iT (w := w) hT hy hz
  have ha := nh (w := w) (c := c) (H := H) ir hc.1
  have cT : (AV.agg (zs.map .t)).cells.all AV.one = true := by simp only [AV.cells, List.all_map]; exact hc.1
  obtain ⟨cl, cr⟩ := ha.cells cT
  split at k
  ·obtain ⟨bH, hR⟩ := yS (w := w) (c := c) (H := H) ir hc.1 (Nat.eq_of_beq_eq_true hc.2)
   refine ⟨_, _, _, _, ?_, .KD e y.size (.agg zs) z.cells bH hR, k⟩
   unfold execOp
   rw [ho]
   simp [Instr.alloc, r, newVar, newRow]
  ·refine ⟨_, _, _, _, ?_, .box (zs.map .t) z.cells e cl.symm cr, k⟩
   unfold execOp
   rw [ho]
   simp [Instr.alloc, r, newVar, newRow]
 ·rename_i e x ho
  rw [ap] at h
  obtain ⟨cl, cr⟩ := (bc he x).cells h.1
  refine ⟨_, _, _, _, ?_, .box _ (a.eval x).cells e cl.symm cr, h.2⟩
  unfold execOp
  rw [ho]
  simp [Instr.box, newVar, newRow]
 ·rename_i t len parts ho
  rw [Γ] at h
  obtain ⟨y, hy, h⟩ := h
  have hd := (hT t y hy).d
  split at h
  ·rename_i e MF
   rw [MF] at hd
   simp only [Γ, ap] at h
   obtain ⟨z, hz, l, tl, hc, k⟩ := h
   simp only [Bool.and_eq_true] at hc
   have c1 := Nat.eq_of_beq_eq_true hc.1.1.1
   have c2 := Nat.le_of_ble_eq_true hc.1.1.2
   have c3 := Nat.le_of_ble_eq_true hc.1.2
   obtain ⟨zs, n_⟩ := Option.isSome_iff_exists.1 hc.2
   have hp := u7 he parts.toList
   obtain ⟨tK, Co, fU⟩ := qA (P := P) (w := w) hT hd hz n_ c3 (parts.map fun p => (p.1, a.eval p.2))
   obtain ⟨q, q1, q2, q3, q4⟩ := vo c2 (arr := tK) hp tl (by rw [Co, c1, Nat.zero_add]; exact Nat.le_refl _)
   have Jb : len ≤ maxLen := by
    have : len * 1 ≤ len * z.size := Nat.mul_le_mul_left _ c2
    simp [maxLen]; omega
   refine ⟨_, _, _, _, ?_, .arr e z.size len (mQ l) q (by rw [q2, Co]) (by rw [sA]; exact c1) Jb (fun i x hi => by rw [xV] at hi; have := q4 i x hi; rw [Nat.zero_add] at this; exact this), k⟩
   have := fU q (by rw [Array.toList_map]; exact q1)
   unfold execOp
   rw [ho]
   simp only [Sem.run_bind, this, Result.andThen_ok, Sem.run_pure]
  ·exact h.elim
 ·rename_i t l cp ho
  rw [Γ] at h
  obtain ⟨y, hy, h⟩ := h
  have hd := (hT t y hy).d
  have hl := bc he l
  have Kk := bc he cp
  split at h
  ·rename_i e k1 n k2 cc MF h1 h2
   rw [MF] at hd
   rw [h1] at hl
   rw [h2] at Kk
   simp only [Γ, ap] at h
   obtain ⟨z, hz, zs, n_, hc, hn, k⟩ := h
   obtain rfl := of_decide_eq_true hn
   simp only [Bool.and_eq_true, decide_eq_true_eq] at hc
   obtain ⟨⟨⟨⟨⟨⟨h0, MZ⟩, mg⟩, qL⟩, dd⟩, lH⟩, oa⟩ := hc
   have dd := Nat.le_of_ble_eq_true dd
   have lH := Nat.eq_of_beq_eq_true lH
   have hl := hl.int
   have Kk := Kk.int
   obtain ⟨zv, r, ir, i, hi, AL, nD, lO⟩ := iT (w := w) hT hz n_
   obtain ⟨Ec, Eb⟩ := mw (w := w) (M := c.M H) ir
   have run := run_make (P := P) w t e i zv hd hi AL k1 k2 n n h0 MZ (by rw [lO, Int.mul_comm]; omega) (by omega)
   rw [nD] at run
   have sZ : zv.cells.size = z.size := by simpa [lH] using Ec.symm
   have tl := lD lH oa dd
   refine ⟨_, _, _, _, ?_, .arr e z.size n.toNat (.ts (List.replicate n.toNat (dV z.size zs))) (madeCells zv.cells (n.toNat * z.size)) (by rw [size_madeCells]) (by simp [Sq.length]) (by simp [maxLen]; omega) (dh.ts.2 fun k x hk => ?_), k⟩
   ·unfold execOp
    rw [ho]
    simp only [Sem.run_bind, hl, Kk, run, Result.andThen_ok, Sem.run_pure]
   ·have yy := ι hk
    simp at yy
    have : x = dV z.size zs := by simp [yy] at hk; exact hk.symm
    subst this
    rw [tl]
    refine ⟨lH, fun j y' hj => ?_⟩
    have fy := ι hj
    have χ : k * z.size + j < n.toNat * z.size := by
     have : (k + 1) * z.size ≤ n.toNat * z.size := Nat.mul_le_mul_right _ (by omega)
     rw [Nat.succ_mul] at this; omega
    obtain ⟨q, hq⟩ := gD (a := zv.cells) (i := j) (by omega)
    have qJ : y'.one = true := by rw [List.all_eq_true] at oa; exact oa y' (List.mem_of_getElem? hj)
    have rt := Eb j y' q hj (by simpa using hq)
    refine ⟨q, ?_, qJ, rt, (rt.jq qJ).1⟩
    rw [Ae _ _ _ χ (by omega), sZ, Nat.mul_comm k, Nat.mul_add_mod, Nat.mod_eq_of_lt (by omega)]
    exact hq
  ·exact h.elim
 ·exact h.elim
theorem Lr {w : World} {c : Cx} {H : AH} {B : Nat} (hs : HS w c H B) {n : Nat} {mk : Nat → AV} {ν : Ψ} {val : Value} {obj : Obj} (hb : H[n]? = some ν) (hg : ν.fix = true → c.G n = none) (hf : wY w c H mk ν val obj) :
 ∃ c', Ew w c H (w.alloc obj) c' H ∧ HS (w.alloc obj) c' H B ∧ RA (w.alloc obj) c' H (mk n) val ∧ (∀ b, b ≠ n → c.G b = none → c'.G b = none) := by
 have χ := ι hb
 by_cases qs : ν.fix = true
 ·have hg := hg qs
  let c' : Cx := ⟨c.F, fun b => if b = n then some w.heap.size else c.G b⟩
  have ew : Ew w c H (w.alloc obj) c' H := by
   refine ⟨rfl, by simp, fun b bk aC => ⟨bk, aC, ?_⟩, fun cb hm => ?_, fun cb χ _ => dl w _ cb χ⟩
   ·have aM : ∀ cb, c.G b = some cb → c'.G b = some cb := fun cb hc => by
     have aw : b ≠ n := fun e => by subst e; rw [hg] at hc; cases hc
     simp only [c', if_neg aw]; exact hc
    cases bk with
    | dead => trivial
    | box cs => exact ⟨rfl, aM⟩
    | iter s p => exact ⟨rfl, aM⟩
    | arr e s z g l =>
     refine ⟨rfl, rfl, rfl, Nat.le_refl _, Nat.le_refl _, fun _ => ⟨rfl, fun cb hc => ⟨aM cb hc, ?_⟩⟩⟩
     unfold dI
     rw [dl w _ cb (hs.base b cb hc).2]
   ·rcases hm with ⟨b, bk, aC, hl, dP⟩
    ·simp only [c'] at dP
     split at dP
     ·exact .inr (by simp at dP; omega)
     ·exact .inl ⟨b, bk, aC, hl, dP⟩
  have vj : ∀ b b' cb, c'.G b = some cb → c'.G b' = some cb → b = b' := by
   intro b b' cb h h'
   simp only [c'] at h h'
   split at h <;> split at h'
   ·omega
   ·have := (hs.base b' cb h').2; simp at h; omega
   ·have := (hs.base b cb h).2; simp at h'; omega
   ·exact hs.inj b b' cb h h'
  have m_ : ∀ b cb, c'.G b = some cb → B ≤ cb ∧ cb < (w.alloc obj).heap.size := by
   intro b cb h
   simp only [c'] at h
   split at h
   ·simp at h; subst h; exact ⟨hs.hB, by simp⟩
   ·have := hs.base b cb h; exact ⟨this.1, by simp; omega⟩
  have tm : ∀ b cb, c'.G b = some cb → b < H.length := by
   intro b cb h
   simp only [c'] at h
   split at h
   ·omega
   ·exact hs.jB b cb h
  have hold : ∀ b cb, b ≠ n → c'.G b = some cb → c.G b = some cb ∧ (w.alloc obj).heap[cb]? = w.heap[cb]? := by
   intro b cb aw h
   simp only [c', if_neg aw] at h
   exact ⟨h, dl w _ cb (hs.base b cb h).2⟩
  have DK : ∀ cb, c'.G n = some cb → cb = w.heap.size := by
   intro cb h
   simp only [c', if_true] at h
   simp at h; omega
  have nS : c'.G n = some w.heap.size := by simp [c']
  have yw : ∀ b cb, c'.G b = some cb → (∃ b', c.G b' = some cb) ∨ w.heap.size ≤ cb := by
   intro b cb h
   simp only [c'] at h
   split at h
   ·exact .inr (by simp at h; omega)
   ·exact .inl ⟨b, h⟩
  refine ⟨c', ew, ?_, ?_, fun b aw h => by simp only [c', if_neg aw]; exact h⟩
  ·cases hf with
   | box cells arr e hl hc =>
    refine hs.v7 ew vj m_ tm (fun b cb cs aC dP => ?_) (fun b cb e1 s1 z1 g1 l1 aC dP => ?_) (fun b cb s1 p1 aC dP => ?_) yw
    ·by_cases aw : b = n
     ·subst aw
      rw [hb] at aC; cases aC
      rw [DK cb dP]
      exact .inr ⟨arr, e, heap_alloc_new w _, hl, fun j x v hj hv => ⟨(hc j x v hj hv).1, (hc j x v hj hv).2.1.ew ew, (hc j x v hj hv).2.2⟩⟩
     ·exact .inl ⟨aC, hold b cb aw dP⟩
    ·by_cases aw : b = n
     ·subst aw; rw [hb] at aC; cases aC
     ·exact .inl ⟨aC, hold b cb aw dP⟩
    ·by_cases aw : b = n
     ·subst aw; rw [hb] at aC; cases aC
     ·exact .inl ⟨aC, hold b cb aw dP⟩
   | arr e s len l arr hl hn hm hc =>
    refine hs.v7 ew vj m_ tm (fun b cb cs aC dP => ?_) (fun b cb e1 s1 z1 g1 l1 aC dP => ?_) (fun b cb s1 p1 aC dP => ?_) yw
    ·by_cases aw : b = n
     ·subst aw; rw [hb] at aC; cases aC
     ·exact .inl ⟨aC, hold b cb aw dP⟩
    ·by_cases aw : b = n
     ·subst aw
      rw [hb] at aC; cases aC
      rw [DK cb dP]
      exact .inr ⟨arr, len, heap_alloc_new w _, hl, by omega, hm, hc.ew ew⟩
     ·exact .inl ⟨aC, hold b cb aw dP⟩
    ·by_cases aw : b = n
     ·subst aw; rw [hb] at aC; cases aC
     ·exact .inl ⟨aC, hold b cb aw dP⟩
   | KD e s x arr hl hc =>
    refine hs.v7 ew vj m_ tm (fun b cb cs aC dP => ?_) (fun b cb e1 s1 z1 g1 l1 aC dP => ?_) (fun b cb s1 p1 aC dP => ?_) yw
    ·by_cases aw : b = n
     ·subst aw; rw [hb] at aC; cases aC
     ·exact .inl ⟨aC, hold b cb aw dP⟩
    ·by_cases aw : b = n
     ·subst aw
      rw [hb] at aC; cases aC
      rw [DK cb dP]
      exact .inr ⟨arr, 1, heap_alloc_new w _, by rw [Nat.one_mul]; exact hl, ⟨Nat.le_refl _, fun h => by cases h⟩, by decide, hc.ew ew⟩
     ·exact .inl ⟨aC, hold b cb aw dP⟩
    ·by_cases aw : b = n
     ·subst aw; rw [hb] at aC; cases aC
     ·exact .inl ⟨aC, hold b cb aw dP⟩
  ·cases hf with
   | box cells arr e hl hc => exact .ptr _ _ _ _ _ _ hb ⟨_, nS, rfl⟩
   | KD e s x arr hl hc => exact .ptr _ _ _ _ _ _ hb ⟨Nat.le_refl _, fun _ => ⟨_, nS, by rw [Nat.zero_mul]⟩⟩
   | arr e s len l arr hl hn hm hc =>
    refine .sl _ _ _ _ _ _ hb ⟨Nat.le_refl _, fun _ => ⟨by omega, .inr <| .inr ⟨by simp, w.heap.size, len, 0, nS, rfl, ?_, Nat.le_refl _, by omega, .inr (by simp), fun _ => rfl⟩⟩⟩
    rw [jf, hl, Nat.zero_add]
 ·cases hf with
  | box => simp [Ψ.fix] at qs
  | KD e s x arr hl hc => simp [Ψ.fix, Sq.length] at qs
  | arr e s len l arr hl hn hm hc =>
   simp only [Ψ.fix, Bool.not_false, Bool.true_and, decide_eq_true_eq] at qs
   have gz : l.length = 0 := by omega
   have hlen : len = 0 := by omega
   subst hlen
   have ew : Ew w c H (w.alloc (.cells arr e (0, 0))) c H := by
    refine ⟨rfl, by simp, fun b bk aC => ⟨bk, aC, ?_⟩, fun cb hm => .inl hm, fun cb χ _ => dl w _ cb χ⟩
    cases bk with
    | dead => trivial
    | box cs => exact ⟨rfl, fun _ h => h⟩
    | iter s p => exact ⟨rfl, fun _ h => h⟩
    | arr e s z g l =>
     refine ⟨rfl, rfl, rfl, Nat.le_refl _, Nat.le_refl _, fun _ => ⟨rfl, fun cb hc => ⟨hc, ?_⟩⟩⟩
     unfold dI
     rw [dl w _ cb (hs.base b cb hc).2]
   refine ⟨c, ew, hs.v7 ew hs.inj (fun b cb h => by have := hs.base b cb h; exact ⟨this.1, by simp; omega⟩) hs.jB (fun b cb cs aC dP => .inl ⟨aC, dP, dl w _ cb (hs.base b cb dP).2⟩) (fun b cb e1 s1 z1 g1 l1 aC dP => .inl ⟨aC, dP, dl w _ cb (hs.base b cb dP).2⟩) (fun b cb s1 p1 aC dP => .inl ⟨aC, dP, dl w _ cb (hs.base b cb dP).2⟩), ?_, fun _ _ h => h⟩
   exact .sl _ _ _ _ _ _ hb ⟨Nat.le_refl _, fun _ => ⟨by omega, .inr (.inl ⟨rfl, gz, _, rfl⟩)⟩⟩
end
end Go.Proofs.YtcogcbplmkcojaaGreatDoor
namespace Go.Proofs.YtcogcbplmkcojaaGreatDoor
open Go.RowKit
set_option linter.unusedVariables false
set_option linter.unusedSimpArgs false
def mC (o : Oper) : Bool :=
 match o.op with
 | .move _ => true
 | .pick _ _ _ => true
 | .build _ _ => true
 | .load _ _ => true
 | .nilCheck _ => true
 | .binOp _ _ _ _ _ => true
 | .unOp _ _ _ => true
 | .convert _ _ _ => true
 | .slice _ _ _ _ _ => true
 | .fieldAddr _ _ _ => true
 | .field _ _ _ => true
 | .indexAddr _ _ _ => true
 | .index _ _ _ => true
 | .extract _ _ => true
 | .makeInterface _ _ => true
 | .makeFunc _ _ _ => true
 | .call c => (match c.callee with | .builtin .len => true | .builtin .min => true | .builtin .max => true | _ => false)
 | _ => false
def JP (tab : a9) (ops : Array Oper) (D : List Nat) (o : Oper) (s : St) (K : St → Prop) : Prop :=
 match s with
 | ⟨env, H⟩ =>
 match o.guard with
 | none => kz tab o env (dY D H) fun v => ma ⟨env, H⟩ o.dst v H K
 | some (j, want) =>
  aY (cL ops j) fun d =>
  match lk env d with
  | .t (.bool c) =>
   (match want with
   | true => Br c (kz tab o ((d, .t (.bool true)) :: env) (dY D H) fun v => ma ⟨(d, .t (.bool true)) :: env, H⟩ o.dst v H K) (ma ⟨(d, .t (.bool false)) :: env, H⟩ o.dst (.ao []) H K)
   | false => Br c (ma ⟨(d, .t (.bool true)) :: env, H⟩ o.dst (.ao []) H K) (kz tab o ((d, .t (.bool false)) :: env) (dY D H) fun v => ma ⟨(d, .t (.bool false)) :: env, H⟩ o.dst v H K))
  | .ao [] => ma ⟨env, H⟩ o.dst (.ao []) H K
  | _ => False
def iC (o : Oper) : List Nat := (o.after.toList.filter fun e => Region.binds .any e).map (·.on)
def bits (ms : List Nat) : List Nat → Nat
 | [] => 0
 | j :: r => (1 <<< j) ||| (ms.getD j 0 ||| bits ms r)
def rL : List Oper → List Nat → List Nat
 | [], ms => ms
 | o :: r, ms => rL r (ms ++ [bits ms (iC o)])
def vW (ops : Array Oper) : List Nat := rL ops.toList []
inductive Ord where
 | nil
 | op (i : Nat) (un : List Nat) (r : Ord)
 | race (a b : Ord)
noncomputable def uv (tab : a9) (call : jE) (ops : Array Oper) (D : Nat → List Nat) (σ : Ord) : St → (St → Prop) → Prop :=
 @Ord.rec (fun _ => St → (St → Prop) → Prop)
  (fun s K => K s)
  (fun i un _ ih s K => aY ops[i]? fun o =>
   match mC o with
   | true => JP tab ops (D i) o s fun s' => ih s' K
   | false =>
    match gW o with
    | true => Ck (!(D i).contains s.H.length) (kl tab call ops o s fun s' => ih s' K)
    | false => kl tab call ops o s fun s' => (∀ j ∈ un, ψ (D j) s.H s'.H) ∧ ih s' K)
  (fun _ _ lG lF s K => lG s K ∧ lF s K) σ
theorem Em (tab : a9) (call : jE) (ops : Array Oper) (D : Nat → List Nat) (i : Nat) (un : List Nat) (r : Ord) (s : St) (K : St → Prop) : uv tab call ops D (.op i un r) s K = aY ops[i]? fun o =>
 match mC o with
 | true => JP tab ops (D i) o s fun s' => uv tab call ops D r s' K
 | false =>
  match gW o with
  | true => Ck (!(D i).contains s.H.length) (kl tab call ops o s fun s' => uv tab call ops D r s' K)
  | false => kl tab call ops o s fun s' => (∀ j ∈ un, ψ (D j) s.H s'.H) ∧ uv tab call ops D r s' K := rfl
def mJ (ops : Array Oper) (oj oi : Oper) : Bool :=
 (mC oj || gW oj) && (match oj.dst with | some d => !(oi.looksAt ops).contains d | none => true) && (match oi.dst with | some d => !(oj.looksAt ops).contains d && (match oj.dst with | some d' => !Nat.beq d d' | none => true) | none => true)
def fW (ops : Array Oper) (j : Nat) : Bool :=
 match ops[j]? with
 | some o => !mC o && !gW o
 | none => false
def Ord.head : Ord → Option Nat
 | .op i _ _ => some i
 | _ => none
def dv (ops : Array Oper) (ms : List Nat) : Ord → List (Nat × Nat) → List Nat → Bool
 | .nil, _, done => (List.range ops.size).all fun i => done.contains i
 | .race a b, R, done =>
  (match a.head, b.head with
  | some j, some i => fW ops j && fW ops i && dv ops ms a ((j, i) :: R) done && dv ops ms b ((i, j) :: R) done
  | _, _ => false)
 | .op i un r, R, done =>
  (match ops[i]? with
  | some oi =>
   (iC oi).all (fun j => done.contains j) &&
   done.all (fun j => !Nat.beq i j && ((ms.getD i 0).testBit j || (match ops[j]? with | some oj => mJ ops oj oi | none => false) || (R.contains (j, i) && fW ops j))) &&
   (!fW ops i || done.all fun j => (ms.getD i 0).testBit j || fW ops j || un.contains j)
  | none => false) && dv ops ms r R (i :: done)
def wZ (ops : Array Oper) (L : Nat → Bool) : Prop := ∀ i o, ops[i]? = some o → L i = true → ∀ j ∈ iC o, L j = true
theorem yQ {ms : List Nat} {j : Nat} : ∀ {l : List Nat}, (bits ms l).testBit j = true → ∃ k ∈ l, k = j ∨ (ms.getD k 0).testBit j = true
 | [], h => by simp [bits] at h
 | k :: r, h => by
  simp only [bits, Nat.testBit_or, Bool.or_eq_true, Nat.one_shiftLeft, Nat.testBit_two_pow, decide_eq_true_eq] at h
  rcases h with h | h | h
  ·exact ⟨k, by simp, .inl h⟩
  ·exact ⟨k, by simp, .inr h⟩
  ·obtain ⟨k', h1, h2⟩ := yQ h
   exact ⟨k', by simp [h1], h2⟩
def xN (ops : Array Oper) (ms : List Nat) : Prop := ∀ i j, (ms.getD i 0).testBit j = true → ∀ L, wZ ops L → (∀ o, ops[i]? = some o → ∀ k ∈ iC o, L k = true) → L j = true
theorem uz {ops : Array Oper} : ∀ {l pre : List Oper} {ms : List Nat}, ops.toList = pre ++ l → ms.length = pre.length → xN ops ms → xN ops (rL l ms)
 | [], pre, ms, h, hl, hm => hm
 | o :: r, pre, ms, h, hl, hm => by
  simp only [rL]
  refine uz (pre := pre ++ [o]) (by simp [h]) (by simp [hl]) fun i j hb L hL hk => ?_
  by_cases hi : i < ms.length
  ·rw [List.getD_eq_getElem?_getD, List.getElem?_append_left hi, ← List.getD_eq_getElem?_getD] at hb
   exact hm i j hb L hL hk
  ·by_cases he : i = ms.length
   ·subst he
    rw [List.getD_eq_getElem?_getD, List.getElem?_append_right (Nat.le_refl _)] at hb
    simp only [Nat.sub_self, List.getElem?_cons_zero, Option.getD_some] at hb
    have ho : ops[ms.length]? = some o := by
     rw [← Array.getElem?_toList, h, List.getElem?_append_right (by omega), hl]; simp
    obtain ⟨k, k1, k2⟩ := yQ hb
    have yD := hk o ho k k1
    rcases k2 with rfl | k2
    ·exact yD
    ·exact hm k j k2 L hL fun o' iJ k' iw => hL k o' iJ yD k' iw
   ·rw [List.getD_eq_getElem?_getD, List.getElem?_eq_none (by simp; omega)] at hb
    simp at hb
theorem IR (ops : Array Oper) : xN ops (vW ops) := uz (pre := []) (by simp) rfl fun i j h => by simp at h
end Go.Proofs.YtcogcbplmkcojaaGreatDoor
namespace Go.Proofs.YtcogcbplmkcojaaGreatDoor
open Go.RowKit
set_option linter.unusedVariables false
set_option linter.unusedSimpArgs false
def fI (e e' : List (Nat × AV)) : Prop := ∀ t, lk e t = lk e' t
theorem fI.refl (e : List (Nat × AV)) : fI e e := fun _ => rfl
theorem fI.symm {e e' : List (Nat × AV)} (h : fI e e') : fI e' e := fun t => (h t).symm
theorem fI.trans {e e' PN : List (Nat × AV)} (h : fI e e') (k : fI e' PN) : fI e PN := fun t => (h t).trans (k t)
def eX (d : Option Nat) (v : AV) (env : List (Nat × AV)) : List (Nat × AV) := match d with | some d => (d, v) :: env | none => env
theorem mB (d : Option Nat) (v : AV) (env : List (Nat × AV)) (t : Nat) : lk (eX d v env) t = if d = some t then v else lk env t := by
 cases d with
 | none => simp [eX]
 | some d => simp only [eX, e9, Option.some.injEq]
theorem fI.eX {e e' : List (Nat × AV)} (h : fI e e') (d : Option Nat) (v : AV) : fI (eX d v e) (eX d v e') := fun t => by
 rw [mB, mB, h t]
theorem put_eq (e : List (Nat × AV)) (H H' : AH) (d : Option Tmp) (v : AV) : St.put ⟨e, H⟩ d v H' = ⟨eX d v e, H'⟩ := by cases d <;> rfl
theorem fI.told {env : List (Nat × AV)} {d : Nat} {c b : Bool} (h : lk env d = .t (.bool c)) (hc : c = b) : fI ((d, .t (.bool b)) :: env) env := fun t => by
 rw [e9]
 split
 ·rename_i e; rw [← e, h, hc]
 ·rfl
theorem sP {e e' : List (Nat × AV)} (h : fI e e') (x : Operand) : aI e x = aI e' x := by
 cases x <;> first | rfl | exact h _
section
variable {P : Program} {tab : a9}
theorem Sat.Mr {O c env env' H a w} (h : Sat O c ⟨env, H⟩ a w) (e : fI env' env) : Sat O c ⟨env', H⟩ a w :=
 ⟨fun t => by rw [show lk env' t = lk env t from e t]; exact h.env t, h.hs, h.size, h.defers, h.ev, h.below⟩
theorem Sat.eX {O c env H a w} (h : Sat O c ⟨env, H⟩ a w) (d : Option Tmp) (hd : ∀ k, d = some k → k < O.N) {v : AV} {val : Value} (hv : RA w c H v val) : Sat O c ⟨eX d v env, H⟩ (a.put d val) w := by
 have := Sat.put h d hd hv ⟨env, H⟩ rfl
 rwa [put_eq] at this
def wR (ops : Array Oper) (o : Oper) (env : List (Nat × AV)) : Prop :=
 o.guard = none ∨ ∃ j want d, o.guard = some (j, want) ∧ cL ops j = some d ∧ lk env d = .t (.bool want)
def wS (ops : Array Oper) (o : Oper) (env : List (Nat × AV)) : Prop :=
 ∃ j want d, o.guard = some (j, want) ∧ cL ops j = some d ∧ (lk env d = .t (.bool (!want)) ∨ lk env d = .ao [])
def gd (ops : Array Oper) (o : Oper) (run : List (Nat × AV) → (AV → AH → Prop) → Prop) (s : St) (K : St → Prop) : Prop :=
 match s with
 | ⟨env, H⟩ =>
 match o.guard with
 | none => run env fun v H' => ma ⟨env, H⟩ o.dst v H' K
 | some (j, want) =>
  aY (cL ops j) fun d =>
  match lk env d with
  | .t (.bool c) =>
   (match want with
   | true => Br c (run ((d, .t (.bool true)) :: env) fun v H' => ma ⟨(d, .t (.bool true)) :: env, H⟩ o.dst v H' K) (ma ⟨(d, .t (.bool false)) :: env, H⟩ o.dst (.ao []) H K)
   | false => Br c (ma ⟨(d, .t (.bool true)) :: env, H⟩ o.dst (.ao []) H K) (run ((d, .t (.bool false)) :: env) fun v H' => ma ⟨(d, .t (.bool false)) :: env, H⟩ o.dst v H' K))
  | .ao [] => ma ⟨env, H⟩ o.dst (.ao []) H K
  | _ => False
theorem xP {call : jE} {ops : Array Oper} {o : Oper} {env : List (Nat × AV)} {H : AH} {K : St → Prop} (h : kl tab call ops o ⟨env, H⟩ K) : gd ops o (fun e K => pz tab call o e H K) ⟨env, H⟩ K := by
 simp only [kl, gd, vG, xh, put_eq] at h ⊢
 exact h
theorem L3 {ops : Array Oper} {D : List Nat} {o : Oper} {env : List (Nat × AV)} {H : AH} {K : St → Prop} (h : JP tab ops D o ⟨env, H⟩ K) : gd ops o (fun e K => kz tab o e (dY D H) fun v => K v H) ⟨env, H⟩ K := h
theorem vl {ops : Array Oper} {o : Oper} {run : List (Nat × AV) → (AV → AH → Prop) → Prop} {env : List (Nat × AV)} {H : AH} {K : St → Prop} (h : gd ops o run ⟨env, H⟩ K) :
 (wR ops o env ∧ ∃ e, fI e env ∧ run e fun v H' => K ⟨Go.Proofs.YtcogcbplmkcojaaGreatDoor.eX o.dst v e, H'⟩) ∨ (wS ops o env ∧ ∃ e, fI e env ∧ K ⟨Go.Proofs.YtcogcbplmkcojaaGreatDoor.eX o.dst (.ao []) e, H⟩) := by
 simp only [gd, vG, xh, put_eq] at h
 split at h
 ·rename_i hg
  exact .inl ⟨.inl hg, env, .refl _, h⟩
 ·rename_i j want hg
  rw [Γ] at h
  obtain ⟨d, hd, h⟩ := h
  split at h
  ·rename_i c hl
   split at h
   ·rw [ku] at h
    rcases h with ⟨rfl, h⟩ | ⟨rfl, h⟩
    ·exact .inl ⟨.inr ⟨j, true, d, hg, hd, hl⟩, _, .told hl rfl, h⟩
    ·exact .inr ⟨⟨j, true, d, hg, hd, .inl hl⟩, _, .told hl rfl, h⟩
   ·rw [ku] at h
    rcases h with ⟨rfl, h⟩ | ⟨rfl, h⟩
    ·exact .inr ⟨⟨j, false, d, hg, hd, .inl hl⟩, _, .told hl rfl, h⟩
    ·exact .inl ⟨.inr ⟨j, false, d, hg, hd, hl⟩, _, .told hl rfl, h⟩
  ·rename_i hl
   exact .inr ⟨⟨j, want, d, hg, hd, .inr hl⟩, env, .refl _, h⟩
  ·exact h.elim
structure tL (ops : Array Oper) (o : Oper) (env env' : List (Nat × AV)) : Prop where
 op : ∀ x ∈ o.op.operands.toList, aI env x = aI env' x
 guard : ∀ j want d, o.guard = some (j, want) → cL ops j = some d → lk env d = lk env' d
theorem wR.gj {ops : Array Oper} {o : Oper} {env iB : List (Nat × AV)} (h : wR ops o env) (ld : tL ops o env iB) {O c H a w} (hs : Sat O c ⟨iB, H⟩ a w) : Region.wanted o (yielded ops a.tmps) = true := by
 rcases h with h | ⟨j, want, d, hg, hd, hl⟩
 ·simp [Region.wanted, h]
 ·rw [ld.guard j want d hg hd] at hl
  have cY := hs.env d
  rw [show lk iB d = _ from hl] at cY
  have wc := uV cY.bool
  have Ki : (ops[j]?).bind (·.dst) = some d := hd
  simp [Region.wanted, hg, yielded, Ki, wc]
theorem wS.gj {ops : Array Oper} {o : Oper} {env iB : List (Nat × AV)} (h : wS ops o env) (ld : tL ops o env iB) {O c H a w} (hs : Sat O c ⟨iB, H⟩ a w) : Region.wanted o (yielded ops a.tmps) = false := by
 obtain ⟨j, want, d, hg, hd, hl⟩ := h
 rw [ld.guard j want d hg hd] at hl
 have cY := hs.env d
 have Ki : (ops[j]?).bind (·.dst) = some d := hd
 rcases hl with hl | hl
 ·rw [show lk iB d = _ from hl] at cY
  have wc := uV cY.bool
  simp [Region.wanted, hg, yielded, Ki, wc]
 ·rw [show lk iB d = _ from hl] at cY
  have hu : a.tmps.getD d undef = .tuple #[] := by
   generalize a.tmps.getD d undef = q at cY
   cases cY with | ao _ vs td _ =>
   have : vs = #[] := Array.eq_empty_of_size_eq_zero (by simpa using td.symm)
   rw [this]
  have mb : yielded ops a.tmps j = none := by
   rw [Array.getD_eq_getD_getElem?] at hu
   simp only [yielded, Ki, Option.bind_some]
   cases hq : a.tmps[d]? with
   | none => rfl
   | some v => simp [hq] at hu; subst hu; rfl
  simp [Region.wanted, hg, mb]
def Ob (tab : a9) (ops : Array Oper) (o : Oper) (env : List (Nat × AV)) (H : AH) (v : AV) : Prop :=
 (wR ops o env ∧ kz tab o env H fun u => u = v) ∨ (wS ops o env ∧ v = .ao [])
theorem Oq {ops : Array Oper} {D : List Nat} {o : Oper} {env : List (Nat × AV)} {H : AH} {K : St → Prop} (h : JP tab ops D o ⟨env, H⟩ K) : ∃ v e, fI e env ∧ Ob tab ops o env (dY D H) v ∧ K ⟨Go.Proofs.YtcogcbplmkcojaaGreatDoor.eX o.dst v e, H⟩ := by
 rcases vl (L3 h) with ⟨hw, e, he, h⟩ | ⟨hw, e, he, h⟩
 ·obtain ⟨v, h1, h2⟩ := GU.ex h
  exact ⟨v, e, he, .inl ⟨hw, q_ (.refl _) (fun x _ => sP he x) h1⟩, h2⟩
 ·exact ⟨_, e, he, .inr ⟨hw, rfl⟩, h⟩
theorem JV {ops : Array Oper} {o : Oper} {env : List (Nat × AV)} {H H' : AH} {v : AV} (hl : Le H H') (h : Ob tab ops o env H v) : Ob tab ops o env H' v :=
 h.imp (fun h => ⟨h.1, q_ hl (fun _ _ => rfl) h.2⟩) id
def KF (c c' : Cx) (H : AH) : Prop := ∀ b ν, H[b]? = some ν → ν.fix = true → c.G b = none → c'.G b = none
theorem Lf (hT : bi P tab) {O : ky} {ops : Array Oper} {D : List Nat} {o : Oper} {env iB : List (Nat × AV)} {H : AH} {v : AV} (h : Ob tab ops o env (dY D H) v) (ld : tL ops o env iB) (hd : kG O.N o = true) {c : Cx} {a : Act} {w : World}
 (hs : Sat O c ⟨iB, H⟩ a w) {next : Act → World → Prop} {Q : Exit → Act → World → Prop} (hn : ∀ c' a' w', Sat O c' ⟨Go.Proofs.YtcogcbplmkcojaaGreatDoor.eX o.dst v iB, H⟩ a' w' → KF c c' H → next a' w') :
 if Region.wanted o (yielded ops a.tmps) then o.wp P a w next Q else next (a.put o.dst undef) w := by
 have hd := ox hd
 rcases h with ⟨hw, h⟩ | ⟨hw, rfl⟩
 ·rw [if_pos (hw.gj ld hs)]
  refine zo (K := fun u H' => u = v ∧ H' = H) hT (HC (GU.mono (fun u e => ⟨e, rfl⟩) (q_ (.dY D H) ld.op h))) hs.hs hs.env fun u val w' c' H' h1 h2 h3 h4 h5 => ?_
  obtain ⟨rfl, rfl⟩ := h5
  exact hn c' _ _ ((hs.go h3 h2 h4).eX o.dst hd h1) h3.late
 ·rw [if_neg (by simp [hw.gj ld hs])]
  exact hn c _ _ (hs.eX o.dst hd (v := .ao []) (.ao [] #[] rfl (by simp))) fun _ _ _ _ h => h
def wV (tab : a9) (ops : Array Oper) (O : ky) (D : List Nat) (o : Oper) (env : List (Nat × AV)) (H : AH) (c : Cx) (v : AV) : Prop :=
 (wR ops o env ∧ ∃ n mk ν, v = mk n ∧ mN tab o env (fun m b => m = mk ∧ b = ν) ∧ H[n]? = some ν ∧ ν ≠ .dead ∧ (ν.fix = true → c.G n = none) ∧ O.H0.length ≤ n) ∨ (wS ops o env ∧ v = .ao [])
def nameOf : AV → Option Nat
 | .ptr b _ _ _ => some b
 | .sl b _ _ _ => some b
 | _ => none
theorem oW {o : Oper} {env : List (Nat × AV)} {mk : Nat → AV} {ν : Ψ} (h : mN tab o env (fun m b => m = mk ∧ b = ν)) : ν ≠ .dead ∧ ∀ n, nameOf (mk n) = some n := by
 unfold mN at h
 split at h
 ·simp only [Γ, ap] at h
  obtain ⟨y, hy, zs, hz, hc, h⟩ := h
  split at h
  ·obtain ⟨rfl, rfl⟩ := h; exact ⟨by simp, fun n => rfl⟩
  ·obtain ⟨rfl, rfl⟩ := h; exact ⟨by simp, fun n => rfl⟩
 ·rw [ap] at h
  obtain ⟨_, rfl, rfl⟩ := h
  exact ⟨by simp, fun n => rfl⟩
 ·rw [Γ] at h
  obtain ⟨y, hy, h⟩ := h
  split at h
  ·simp only [Γ, ap] at h
   obtain ⟨z, hz, l, hl, hc, rfl, rfl⟩ := h
   exact ⟨by simp, fun n => rfl⟩
  ·exact h.elim
 ·rw [Γ] at h
  obtain ⟨y, hy, h⟩ := h
  split at h
  ·simp only [Γ, ap] at h
   obtain ⟨z, hz, zs, n_, hc, hn, rfl, rfl⟩ := h
   exact ⟨by simp, fun n => rfl⟩
  ·exact h.elim
 ·exact h.elim
theorem IL (hT : bi P tab) {O : ky} {ops : Array Oper} {D : List Nat} {o : Oper} {env iB : List (Nat × AV)} {H : AH} {v : AV} {c : Cx} (h : wV tab ops O D o env H c v) (ld : tL ops o env iB) (hd : kG O.N o = true) {a : Act} {w : World}
 (hs : Sat O c ⟨iB, H⟩ a w) {next : Act → World → Prop} {Q : Exit → Act → World → Prop}
 (hn : ∀ c' a' w', Sat O c' ⟨Go.Proofs.YtcogcbplmkcojaaGreatDoor.eX o.dst v iB, H⟩ a' w' → (∀ b, nameOf v ≠ some b → c.G b = none → c'.G b = none) → next a' w') :
 if Region.wanted o (yielded ops a.tmps) then o.wp P a w next Q else next (a.put o.dst undef) w := by
 have hd := ox hd
 rcases h with ⟨hw, n, mk, ν, rfl, ph, hb, sj, hg, hO⟩ | ⟨hw, rfl⟩
 ·rw [if_pos (hw.gj ld hs)]
  obtain ⟨_, wi⟩ := oW ph
  obtain ⟨mk', az, val, obj, fU, hf, rfl, rfl⟩ := Ov hT (sq ld.op ph) hs.env
  obtain ⟨c', ew, aF, cY, ka⟩ := Lr hs.hs hb hg hf
  unfold Oper.wp
  rw [fU, Oper.upon_value]
  refine hn c' _ _ (Sat.eX ⟨fun t => (hs.env t).ew ew, aF, hs.size, hs.defers, hs.ev.L8 ew fun b χ hb => ka b (by omega) hb, hs.below.trans (iM hs.hs.hB _)⟩ o.dst hd cY) fun b aw hb => ka b (fun e => aw (by rw [e]; exact wi n)) hb
 ·rw [if_neg (by simp [hw.gj ld hs])]
  exact hn c _ _ (hs.eX o.dst hd (v := .ao []) (.ao [] #[] rfl (by simp))) fun _ _ h => h
theorem KL {call : jE} {o : Oper} {env env' : List (Nat × AV)} {H : AH} {K : AV → AH → Prop} (he : ∀ x ∈ o.op.operands.toList, aI env x = aI env' x) (h : pz tab call o env H K) : pz tab call o env' H K := by
 unfold pz at h ⊢
 generalize o.op = p at h he ⊢
 cases p <;> simp only at h ⊢ <;> first | exact h | skip
 case move x => rw [← he x (by simp [Op.operands])]; exact h
 case assign x => rw [← he x (by simp [Op.operands])]; exact h
 case pick c a b => rw [← he c (by simp [Op.operands]), ← he a (by simp [Op.operands]), ← he b (by simp [Op.operands])]; exact h
 case box t x => rw [← he x (by simp [Op.operands])]; exact h
 case build t ps => rw [← nu (env := env) (fun x hx => he x (by simpa [Op.operands] using hx))]; exact h
 case buildSlice t n ps => rw [← nu (env := env) (fun x hx => he x (by simpa [Op.operands] using hx))]; exact h
 case load t a => rw [← he a (by simp [Op.operands])]; exact h
 case store t a v => rw [← he a (by simp [Op.operands]), ← he v (by simp [Op.operands])]; exact h
 case nilCheck x => rw [← he x (by simp [Op.operands])]; exact h
 case binOp op t x y t2 => rw [← he x (by simp [Op.operands]), ← he y (by simp [Op.operands])]; exact h
 case unOp op t x => rw [← he x (by simp [Op.operands])]; exact h
 case convert t u x => rw [← he x (by simp [Op.operands])]; exact h
 case makeInterface t x => rw [← he x (by simp [Op.operands])]; exact h
 case makeFunc f a b =>
  have e1 : a.toList.map (aI env) = a.toList.map (aI env') := List.map_congr_left fun x hx => he x (by simp [Op.operands] at hx ⊢; simp [hx])
  have e2 : b.toList.map (aI env) = b.toList.map (aI env') := List.map_congr_left fun x hx => he x (by simp [Op.operands] at hx ⊢; simp [hx])
  rw [← e1, ← e2]; exact h
 case makeSlice t a b => rw [← he a (by simp [Op.operands]), ← he b (by simp [Op.operands])]; exact h
 case slice t x lo hi mx =>
  rw [← he x (by simp [Op.operands]), ← oE (env := env) (o := lo) (fun x hx => he x (by simp [Op.operands] at hx ⊢; simp [hx])), ← oE (env := env) (o := hi) (fun x hx => he x (by simp [Op.operands] at hx ⊢; simp [hx])),
   ← oE (env := env) (o := mx) (fun x hx => he x (by simp [Op.operands] at hx ⊢; simp [hx]))]
  exact h
 case fieldAddr t x k => rw [← he x (by simp [Op.operands])]; exact h
 case field t x k => rw [← he x (by simp [Op.operands])]; exact h
 case indexAddr t x i => rw [← he x (by simp [Op.operands]), ← he i (by simp [Op.operands])]; exact h
 case index t x i => rw [← he x (by simp [Op.operands]), ← he i (by simp [Op.operands])]; exact h
 case extract x i => rw [← he x (by simp [Op.operands])]; exact h
 case range t x => rw [← he x (by simp [Op.operands])]; exact h
 case next x st => rw [← he x (by simp [Op.operands])]; exact h
 case call c =>
  unfold vx at h ⊢
  have ha : ∀ x ∈ c.args.toList, aI env x = aI env' x := fun x hx => he x (by simp [Op.operands, Call.operands] at hx ⊢; simp [hx])
  have hm : c.args.toList.map (aI env) = c.args.toList.map (aI env') := List.map_congr_left ha
  generalize hc : c.callee = cc at h ⊢
  cases cc <;> simp only at h ⊢ <;> first | exact h.elim | skip
  ·rename_i f
   rw [← he f (by simp [Op.operands, Call.operands, hc]), ← hm]
   exact h
  ·rename_i b
   split at h
   ·rename_i h1 h2
    try simp only [h1, h2]
    rw [← ha _ (by rw [h2]; simp)]
    exact h
   ·rename_i h1 h2
    try simp only [h1, h2]
    rw [← ha _ (by rw [h2]; simp), ← ha _ (by rw [h2]; simp)]
    exact h
   ·rename_i h1 h2
    try simp only [h1, h2]
    rw [← ha _ (by rw [h2]; simp)]
    exact h
   ·rename_i h1 h2
    try simp only [h1, h2]
    rw [← ha _ (by rw [h2]; simp), ← ha _ (by rw [h2]; simp)]
    exact h
   ·rename_i h2
    try simp only [h2]
    rw [← ha _ (by rw [h2]; simp), ← ha _ (by rw [h2]; simp)]
    exact h
   ·rename_i h2
    try simp only [h2]
    rw [← ha _ (by rw [h2]; simp), ← ha _ (by rw [h2]; simp)]
    exact h
   ·exact h.elim
theorem LR (hT : bi P tab) {O : ky} {ops : Array Oper} {o : Oper} {env iB : List (Nat × AV)} {H : AH} {K : St → Prop} (h : kl tab (γ P) ops o ⟨env, H⟩ K) (ld : tL ops o env iB) (hd : kG O.N o = true) {c : Cx} {a : Act} {w : World}
 (hs : Sat O c ⟨iB, H⟩ a w) {next : Act → World → Prop} {Q : Exit → Act → World → Prop}
 (hn : ∀ v c' H' a' w' e, Sat O c' ⟨Go.Proofs.YtcogcbplmkcojaaGreatDoor.eX o.dst v iB, H'⟩ a' w' → KF c c' H → fI e env → K ⟨Go.Proofs.YtcogcbplmkcojaaGreatDoor.eX o.dst v e, H'⟩ → next a' w') :
 if Region.wanted o (yielded ops a.tmps) then o.wp P a w next Q else next (a.put o.dst undef) w := by
 have hd := ox hd
 rcases vl (xP h) with ⟨hw, e, he, h⟩ | ⟨hw, e, he, h⟩
 ·rw [if_pos (hw.gj ld hs)]
  refine zo hT (KL (fun x hx => (sP he x).trans (ld.op x hx)) h) hs.hs hs.env fun u val w' c' H' h1 h2 h3 h4 h5 => ?_
  exact hn u c' H' _ _ e ((hs.go h3 h2 h4).eX o.dst hd h1) h3.late he h5
 ·rw [if_neg (by simp [hw.gj ld hs])]
  exact hn (.ao []) c H _ _ e (hs.eX o.dst hd (v := .ao []) (.ao [] #[] rfl (by simp))) (fun _ _ _ _ h => h) he h
end
end Go.Proofs.YtcogcbplmkcojaaGreatDoor
namespace Go.Proofs.YtcogcbplmkcojaaGreatDoor
open Go.RowKit
set_option linter.unusedVariables false
set_option linter.unusedSimpArgs false
def fc (ops : Array Oper) (env0 : List (Nat × AV)) : List (Nat × AV) → List (Nat × AV)
 | [] => env0
 | (i, v) :: r => eX (cL ops i) v (fc ops env0 r)
theorem sU {ops : Array Oper} {env0 : List (Nat × AV)} {L : Nat → Bool} {t : Nat} {Z : List (Nat × AV)} : ∀ {X : List (Nat × AV)}, (∀ e ∈ X, cL ops e.1 = some t → L e.1 = false) →
 lk (fc ops env0 ((X ++ Z).filter fun e => L e.1)) t = lk (fc ops env0 (Z.filter fun e => L e.1)) t
 | [], _ => rfl
 | (j, v) :: r, h => by
  have ih := sU (env0 := env0) (Z := Z) (X := r) fun e he => h e (by simp [he])
  rw [List.cons_append, List.filter_cons]
  cases hL : L j with
  | false => simpa using ih
  | true =>
   simp only [if_true, fc, mB]
   rw [if_neg (fun hs => by have := h (j, v) (by simp) hs; simp only at this; rw [hL] at this; cases this)]
   exact ih
theorem qo {ops : Array Oper} {env0 : List (Nat × AV)} {L : Nat → Bool} {t : Nat} : ∀ {Y : List (Nat × AV)}, (∀ e ∈ Y, cL ops e.1 = some t → L e.1 = true) →
 lk (fc ops env0 (Y.filter fun e => L e.1)) t = lk (fc ops env0 Y) t
 | [], _ => rfl
 | (j, v) :: r, h => by
  have ih := qo (env0 := env0) (Y := r) fun e he => h e (by simp [he])
  rw [List.filter_cons]
  cases hL : L j with
  | true => simp only [if_true, fc, mB, ih]
  | false =>
   simp only [Bool.false_eq_true, if_false, fc, mB]
   rw [if_neg (fun hs => by have := h (j, v) (by simp) hs; simp only at this; rw [hL] at this; cases this)]
   exact ih
theorem uA {ops : Array Oper} {env0 : List (Nat × AV)} {L L' : Nat → Bool} {i : Nat} {v : AV} (hi : L i = false) (eJ : L' i = true) (ho : ∀ j, j ≠ i → L' j = L j) {Y : List (Nat × AV)} (hY : ∀ e ∈ Y, e.1 ≠ i) : ∀ {X : List (Nat × AV)}, (∀ e ∈ X, e.1 ≠ i) →
 (∀ e ∈ X, ∀ t, cL ops e.1 = some t → cL ops i = some t → L e.1 = false) →
 fI (fc ops env0 ((X ++ (i, v) :: Y).filter fun e => L' e.1)) (eX (cL ops i) v (fc ops env0 ((X ++ (i, v) :: Y).filter fun e => L e.1)))
 | [], _, _ => by
  have : Y.filter (fun e => L' e.1) = Y.filter fun e => L e.1 := List.filter_congr fun e he => ho e.1 (hY e he)
  simp only [List.nil_append, List.filter_cons, hi, eJ, if_true, fc, this]
  simp [fI.refl]
 | (j, u) :: r, hX, hs => by
  have ih := uA (v := v) (env0 := env0) hi eJ ho hY (X := r) (fun e he => hX e (by simp [he])) (fun e he => hs e (by simp [he]))
  have hj : j ≠ i := hX (j, u) (by simp)
  intro t
  simp only [List.cons_append, List.filter_cons, ho j hj]
  cases hL : L j with
  | false => simpa using ih t
  | true =>
   have aw : ∀ t, cL ops j = some t → cL ops i ≠ some t := fun t h1 h2 => by
    have := hs (j, u) (by simp) t h1 h2; simp only at this; rw [hL] at this; cases this
   simp only [if_true, fc, mB]
   rw [ih t, mB]
   by_cases h1 : cL ops j = some t
   ·rw [if_pos h1, if_neg (aw t h1), if_pos h1]
   ·rw [if_neg h1, if_neg h1]
def qZ (ops : Array Oper) (ms : List Nat) : List Nat → Prop
 | [] => True
 | i :: r => (∃ oi, ops[i]? = some oi ∧ (∀ j ∈ iC oi, j ∈ r) ∧ ∀ j ∈ r, i ≠ j ∧ ((ms.getD i 0).testBit j = true ∨ (∃ oj, ops[j]? = some oj ∧ mJ ops oj oi = true) ∨ fW ops j = true)) ∧ qZ ops ms r
theorem nc {ops : Array Oper} {ms : List Nat} {i : Nat} {un : List Nat} {r : Ord} {R : List (Nat × Nat)} {done : List Nat} (h : dv ops ms (.op i un r) R done = true) (hd : qZ ops ms done) :
 qZ ops ms (i :: done) ∧ (fW ops i = true → ∀ j ∈ done, (ms.getD i 0).testBit j = true ∨ fW ops j = true ∨ j ∈ un) ∧ dv ops ms r R (i :: done) = true := by
 simp only [dv, Bool.and_eq_true] at h
 obtain ⟨h1, h2⟩ := h
 cases ho : ops[i]? with
 | none => rw [ho] at h1; cases h1
 | some oi =>
  rw [ho] at h1
  simp only [Bool.and_eq_true, List.all_eq_true, Bool.or_eq_true, Bool.not_eq_true'] at h1
  obtain ⟨⟨b1, b2⟩, b3⟩ := h1
  refine ⟨⟨⟨oi, ho, fun j hj => by simpa using b1 j hj, fun j hj => ⟨fun e => ?_, ?_⟩⟩, hd⟩, fun hf j hj => ?_, h2⟩
  ·have := (b2 j hj).1; subst e; simp at this
  ·rcases (b2 j hj).2 with (h | h) | h
   ·exact .inl h
   ·refine .inr (.inl ?_)
    split at h
    ·rename_i oj fp; exact ⟨oj, fp, h⟩
    ·cases h
   ·exact .inr (.inr h.2)
  ·rcases b3 with h | h
   ·rw [hf] at h; cases h
   ·rcases h j hj with (h | h) | h
    ·exact .inl h
    ·exact .inr (.inl h)
    ·exact .inr (.inr (by simpa using h))
theorem pp {ops : Array Oper} {ms : List Nat} {i : Nat} {Y : List Nat} : ∀ {X : List Nat}, qZ ops ms (X ++ i :: Y) → qZ ops ms (i :: Y) ∧
 ∀ k ∈ X, k ≠ i ∧ ((ms.getD k 0).testBit i = true ∨ (∃ oi ok, ops[i]? = some oi ∧ ops[k]? = some ok ∧ mJ ops oi ok = true) ∨ fW ops i = true)
 | [], h => ⟨h, by simp⟩
 | k :: r, h => by
  obtain ⟨⟨ok, de, h1, h2⟩, h3⟩ := h
  obtain ⟨h4, h5⟩ := pp (X := r) h3
  refine ⟨h4, fun q hq => ?_⟩
  rcases List.mem_cons.1 hq with rfl | hq
  ·obtain ⟨b1, b2⟩ := h2 i (by simp)
   refine ⟨b1, b2.imp id (Or.imp (fun ⟨oi, a, b⟩ => ⟨oi, ok, a, de, b⟩) id)⟩
  ·exact h5 q hq
theorem apart_spec {ops : Array Oper} {oj oi : Oper} (h : mJ ops oj oi = true) : (mC oj || gW oj) = true ∧ (∀ d, oj.dst = some d → d ∉ oi.looksAt ops) ∧ (∀ d, oi.dst = some d → d ∉ oj.looksAt ops ∧ oj.dst ≠ some d) := by
 simp only [mJ, Bool.and_eq_true] at h
 obtain ⟨⟨h1, h2⟩, h3⟩ := h
 refine ⟨h1, fun d hd => ?_, fun d hd => ?_⟩
 ·rw [hd] at h2; simpa using h2
 ·rw [hd] at h3
  simp only [Bool.and_eq_true, Bool.not_eq_true'] at h3
  refine ⟨by simpa using h3.1, fun e => ?_⟩
  rw [e] at h3
  simp at h3
theorem gV {ops : Array Oper} {i : Nat} {o : Oper} (h : ops[i]? = some o) : cL ops i = o.dst := by simp [cL, h]
theorem FL {ops : Array Oper} {o : Oper} {t : Nat} (h : .tmp t ∈ o.op.operands.toList) : t ∈ o.looksAt ops := by
 simp only [Oper.looksAt, List.mem_append, List.mem_filterMap]
 exact .inl ⟨_, h, rfl⟩
theorem BL {ops : Array Oper} {o : Oper} {j : Nat} {want : Bool} {d : Nat} (h : o.guard = some (j, want)) (hd : cL ops j = some d) : d ∈ o.looksAt ops := by
 simp only [Oper.looksAt, List.mem_append, h]
 refine .inr ?_
 rw [show ops[j]?.bind (·.dst) = some d from hd]
 simp
theorem B4 {ops : Array Oper} {o : Oper} {env env' : List (Nat × AV)} (h : ∀ t ∈ o.looksAt ops, lk env t = lk env' t) : tL ops o env env' :=
 ⟨fun x hx => by cases x <;> first | rfl | exact h _ (FL hx), fun j want d hg hd => h d (BL hg hd)⟩
theorem wI {p p' : Nat → Bool} {i : Nat} (hp : p i = true) (Pd : p' i = false) (he : ∀ j, j ≠ i → p' j = p j) : ∀ {l : List Nat}, l.Nodup → i ∈ l → l.countP p = l.countP p' + 1
 | [], _, h => by cases h
 | k :: r, hn, h => by
  rw [List.nodup_cons] at hn
  rw [List.countP_cons, List.countP_cons]
  rcases List.mem_cons.1 h with rfl | h
  ·have : r.countP p = r.countP p' := List.countP_congr fun j hj => by rw [he j (fun e => hn.1 (e ▸ hj))]
   simp [hp, Pd, this]
  ·have ih := wI hp Pd he hn.2 h
   have : p' k = p k := he k fun e => hn.1 (e ▸ h)
   rw [ih, this]
   omega
section
variable {P : Program} {tab : a9}
theorem Ij {ops : Array Oper} {o : Oper} {e e' : List (Nat × AV)} (h : fI e e') {H : AH} {v : AV} (k : Ob tab ops o e H v) : Ob tab ops o e' H v := by
 refine k.imp (fun k => ⟨?_, q_ (.refl _) (fun x _ => sP h x) k.2⟩) fun k => ⟨?_, k.2⟩
 ·rcases k.1 with k | ⟨j, want, d, a, b, c⟩
  ·exact .inl k
  ·exact .inr ⟨j, want, d, a, b, by rw [← h d]; exact c⟩
 ·obtain ⟨j, want, d, a, b, c⟩ := k.1
  exact ⟨j, want, d, a, b, by rw [← h d]; exact c⟩
theorem xW {O : ky} {D : List Nat} {ops : Array Oper} {o : Oper} {e e' : List (Nat × AV)} (h : fI e e') {H : AH} {c : Cx} {v : AV} (k : wV tab ops O D o e H c v) : wV tab ops O D o e' H c v := by
 rcases k with ⟨k1, n, mk, ν, a1, a2, a3⟩ | k
 ·refine .inl ⟨?_, n, mk, ν, a1, sq (fun x _ => sP h x) a2, a3⟩
  rcases k1 with k | ⟨j, want, d, a, b, c⟩
  ·exact .inl k
  ·exact .inr ⟨j, want, d, a, b, by rw [← h d]; exact c⟩
 ·obtain ⟨j, want, d, a, b, c⟩ := k.1
  exact .inr ⟨⟨j, want, d, a, b, by rw [← h d]; exact c⟩, k.2⟩
theorem vT {O : ky} {D : List Nat} {ops : Array Oper} {o : Oper} {e : List (Nat × AV)} {H H' : AH} {c c' : Cx} {v : AV} (k : wV tab ops O D o e H c v) (hl : ∀ n ν, nameOf v = some n → H[n]? = some ν → ν ≠ .dead → H'[n]? = some ν)
 (ka : ∀ n ν, nameOf v = some n → H[n]? = some ν → ν.fix = true → c.G n = none → c'.G n = none) : wV tab ops O D o e H' c' v := by
 rcases k with ⟨k1, n, mk, ν, a1, a2, a3, a4, a5, a6⟩ | k
 case inr => exact .inr k
 refine .inl ⟨k1, n, mk, ν, a1, a2, ?_, a4, fun hf => ?_, a6⟩
 ·exact hl n ν (by rw [a1]; exact (oW a2).2 n) a3 a4
 ·exact ka n ν (by rw [a1]; exact (oW a2).2 n) a3 hf (a5 hf)
structure Inv (P : Program) (tab : a9) (ops : Array Oper) (ms : List Nat) (D : Nat → List Nat) (env0 : List (Nat × AV)) (O : ky) (K : St → Prop) (L : Nat → Bool) (W : List (Nat × AV)) (rest : Ord) (R : List (Nat × Nat)) (H : AH) (c : Cx) (a : Act) (w : World) : Prop where
 sat : Sat O c ⟨fc ops env0 (W.filter fun e => L e.1), H⟩ a w
 closed : wZ ops L
 sub : ∀ i, L i = true → i ∈ W.map Prod.fst
 yh : ∀ X i v Y o, W = X ++ (i, v) :: Y → L i = false → ops[i]? = some o → (mC o = true ∧ Ob tab ops o (fc ops env0 Y) (dY (D i) H) v) ∨ (gW o = true ∧ wV tab ops O (D i) o (fc ops env0 Y) H c v)
 oJ : ∀ i j v u n oi oj, (i, v) ∈ W → (j, u) ∈ W → i ≠ j → L i = false → L j = false → ops[i]? = some oi → ops[j]? = some oj → gW oi = true → gW oj = true → nameOf v = some n → nameOf u ≠ some n
 walk : ∃ e, fI e (fc ops env0 W) ∧ uv tab (γ P) ops D rest ⟨e, H⟩ K
 done : qZ ops ms (W.map Prod.fst)
 more : dv ops ms rest R (W.map Prod.fst) = true
 oo : ∀ p ∈ R, p.1 ∈ W.map Prod.fst
 early : ∀ i v o n, (i, v) ∈ W → ops[i]? = some o → gW o = true → nameOf v = some n → n ∉ D i
theorem vb {o : Oper} (h : gW o = true) : mC o = false := by
 unfold gW at h
 unfold mC
 cases ho : o.op <;> rw [ho] at h <;> simp at h <;> rfl
theorem IM {O : ky} {D : List Nat} {ops : Array Oper} {o : Oper} {e : List (Nat × AV)} {H : AH} {c : Cx} {v : AV} {n : Nat} (k : wV tab ops O D o e H c v) (hn : nameOf v = some n) : ∃ ν, H[n]? = some ν := by
 rcases k with ⟨_, m, mk, ν, rfl, a2, a3, _⟩ | ⟨_, rfl⟩
 ·rw [(oW a2).2 m] at hn
  cases hn
  exact ⟨ν, a3⟩
 ·simp [nameOf] at hn
theorem Ev.len {w c H w' c' H'} (h : Ev w c H w' c' H') : H.length ≤ H'.length := by
 rcases Nat.lt_or_ge H'.length H.length with χ | eE
 ·obtain ⟨az, hb, _⟩ := h.ν H'.length _ (List.getElem?_eq_getElem χ)
  have := ι hb
  omega
 ·exact eE
theorem Inv.advance {ops : Array Oper} {ms : List Nat} {D : Nat → List Nat} {env0 : List (Nat × AV)} {O : ky} {K : St → Prop} {L : Nat → Bool} {R : List (Nat × Nat)} {c : Cx} {a : Act} {w : World} : ∀ {rest : Ord} {W : List (Nat × AV)} {H : AH},
 Inv P tab ops ms D env0 O K L W rest R H c a w → ∃ W' y_ H', Inv P tab ops ms D env0 O K L W' y_ R H' c a w ∧ (y_ = .nil ∨ (∃ q un r oq, y_ = .op q un r ∧ ops[q]? = some oq ∧ mC oq = false ∧ gW oq = false) ∨ ∃ a b, y_ = .race a b)
 | .nil, W, H, h => ⟨W, .nil, H, h, .inl rfl⟩
 | .race a b, W, H, h => ⟨W, .race a b, H, h, .inr (.inr ⟨a, b, rfl⟩)⟩
 | .op i un r, W, H, h => by
  obtain ⟨e, he, hw⟩ := h.walk
  simp only [Em] at hw
  rw [Γ] at hw
  obtain ⟨o, ho, hw⟩ := hw
  obtain ⟨d1, d2, d3⟩ := nc h.more h.done
  have Kb : ∀ u, (i, u) ∉ W := fun u hu => by
   obtain ⟨_, _, _, d4⟩ := d1.1
   exact (d4 i (List.mem_map.2 ⟨_, hu, rfl⟩)).1 rfl
  have MX : L i = false := by
   cases hL : L i with
   | false => rfl
   | true =>
    have := h.sub i hL
    simp only [List.mem_map] at this
    obtain ⟨⟨j, u⟩, hu, rfl⟩ := this
    exact (Kb u hu).elim
  cases hr : mC o with
  | true =>
   rw [hr] at hw
   obtain ⟨v, e', h1, h2, h3⟩ := Oq hw
   refine Inv.advance (rest := r) (W := (i, v) :: W) (H := H) ⟨?_, h.closed, fun j hj => ?_, fun X j u Y oj hW hj fp => ?_, fun j k u u' n oj ok hj hk aw lj lk fp de mj mk hn => ?_, ⟨_, ?_, h3⟩, by simpa using d1, by simpa using d3, fun p hp => List.mem_cons_of_mem _ (h.oo p hp), fun q x oq n hq nC mq hn => (by
    rcases List.mem_cons.1 hq with e | hq
    ·cases e; rw [ho] at nC; cases nC; rw [vb mq] at hr; cases hr
    ·exact h.early q x oq n hq nC mq hn)⟩
   ·rw [List.filter_cons, MX]
    simpa using h.sat
   ·simp only [List.map_cons, List.mem_cons]; exact .inr (h.sub j hj)
   ·cases X with
    | nil =>
     simp only [List.nil_append, List.cons.injEq, Prod.mk.injEq] at hW
     obtain ⟨⟨rfl, rfl⟩, rfl⟩ := hW
     rw [ho] at fp; cases fp
     exact .inl ⟨hr, Ij he h2⟩
    | cons x X =>
     simp only [List.cons_append, List.cons.injEq] at hW
     exact h.yh X j u Y oj hW.2 hj fp
   ·have Mo : ∀ {q ok x}, ops[q]? = some ok → gW ok = true → (q, x) ∈ (i, v) :: W → (q, x) ∈ W := fun {q ok x} h1 h2 h3 => by
     rcases List.mem_cons.1 h3 with e | h3
     ·cases e
      rw [ho] at h1; cases h1
      rw [vb h2] at hr; cases hr
     ·exact h3
    exact h.oJ j k u u' n oj ok (Mo fp mj hj) (Mo de mk hk) aw lj lk fp de mj mk hn
   ·simp only [fc, gV ho]
    exact (h1.trans he).eX _ _
  | false =>
   rw [hr] at hw
   simp only at hw
   cases hm : gW o with
   | false => exact ⟨W, .op i un r, H, h, .inr (.inl ⟨i, un, r, o, rfl, ho, hr, hm⟩)⟩
   | true =>
    rw [hm] at hw
    simp only at hw
    rw [ap] at hw
    obtain ⟨hD, hw⟩ := hw
    have hD : H.length ∉ D i := by simpa using hD
    rcases vl (xP hw) with ⟨nA, e', h1, h2⟩ | ⟨nA, e', h1, h3⟩
    ·obtain ⟨mk, ν, ph, h3⟩ := HE hm h2
     obtain ⟨ev, aF⟩ := oU h.sat.hs ν
     obtain ⟨sj, wi⟩ := oW ph
     refine Inv.advance (rest := r) (W := (i, mk H.length) :: W) (H := H ++ [ν]) ⟨?_, h.closed, fun j hj => ?_, fun X j u Y oj hW hj fp => ?_, fun j k u u' n oj ok hj hk aw lj lk fp de mj mk' hn => ?_, ⟨_, ?_, h3⟩, by simpa using d1, by simpa using d3, fun p hp => List.mem_cons_of_mem _ (h.oo p hp), fun q x oq n hq nC mq hn => (by
      rcases List.mem_cons.1 hq with e | hq
      ·cases e; rw [wi] at hn; cases hn; exact hD
      ·exact h.early q x oq n hq nC mq hn)⟩
     ·rw [List.filter_cons, MX]
      exact h.sat.go ev aF (Below.refl _ _)
     ·simp only [List.map_cons, List.mem_cons]; exact .inr (h.sub j hj)
     ·cases X with
      | nil =>
       simp only [List.nil_append, List.cons.injEq, Prod.mk.injEq] at hW
       obtain ⟨⟨rfl, rfl⟩, rfl⟩ := hW
       rw [ho] at fp; cases fp
       refine .inr ⟨hm, xW he (.inl ⟨nA, H.length, mk, ν, rfl, sq (fun x _ => sP h1 x) ph, gp, sj, fun _ => h.sat.hs.N1, h.sat.ev.len⟩)⟩
      | cons x X =>
       simp only [List.cons_append, List.cons.injEq] at hW
       refine (h.yh X j u Y oj hW.2 hj fp).imp (fun h => ⟨h.1, JV (ψ.append _ H [ν]).le h.2⟩) fun h => ⟨h.1, vT h.2 (fun n b _ hb _ => by rw [bh (ι hb)]; exact hb) fun _ _ _ _ _ h => h⟩
     ·have vR : ∀ {q oq x m}, (q, x) ∈ W → L q = false → ops[q]? = some oq → gW oq = true → nameOf x = some m → m < H.length := fun {q oq x m} hq lq nC mq hn => by
       obtain ⟨X, Y, hW⟩ := List.append_of_mem hq
       rcases h.yh X q x Y oq hW lq nC with h | h
       ·rw [vb mq] at h; cases h.1
       ·obtain ⟨ν, hb⟩ := IM h.2 hn
        exact ι hb
      rcases List.mem_cons.1 hj with e1 | hj <;> rcases List.mem_cons.1 hk with e2 | hk
      ·cases e1; cases e2; exact (aw rfl).elim
      ·cases e1
       rw [wi] at hn; cases hn
       exact fun hh => by have := vR hk lk de mk' hh; omega
      ·cases e2
       rw [wi]
       exact fun hh => by have := vR hj lj fp mj hn; cases hh; omega
      ·exact h.oJ j k u u' n oj ok hj hk aw lj lk fp de mj mk' hn
     ·simp only [fc, gV ho]
      exact (h1.trans he).eX _ _
    ·refine Inv.advance (rest := r) (W := (i, .ao []) :: W) (H := H) ⟨?_, h.closed, fun j hj => ?_, fun X j u Y oj hW hj fp => ?_, fun j k u u' n oj ok hj hk aw lj lk fp de mj mk' hn => ?_, ⟨_, ?_, h3⟩, by simpa using d1, by simpa using d3, fun p hp => List.mem_cons_of_mem _ (h.oo p hp), fun q x oq n hq nC mq hn => (by
      rcases List.mem_cons.1 hq with e | hq
      ·cases e; simp [nameOf] at hn
      ·exact h.early q x oq n hq nC mq hn)⟩
     ·rw [List.filter_cons, MX]
      simpa using h.sat
     ·simp only [List.map_cons, List.mem_cons]; exact .inr (h.sub j hj)
     ·cases X with
      | nil =>
       simp only [List.nil_append, List.cons.injEq, Prod.mk.injEq] at hW
       obtain ⟨⟨rfl, rfl⟩, rfl⟩ := hW
       rw [ho] at fp; cases fp
       exact .inr ⟨hm, xW he (.inr ⟨nA, rfl⟩)⟩
      | cons x X =>
       simp only [List.cons_append, List.cons.injEq] at hW
       exact h.yh X j u Y oj hW.2 hj fp
     ·rcases List.mem_cons.1 hj with e1 | hj <;> rcases List.mem_cons.1 hk with e2 | hk
      ·cases e1; cases e2; exact (aw rfl).elim
      ·cases e1; simp [nameOf] at hn
      ·cases e2; simp [nameOf]
      ·exact h.oJ j k u u' n oj ok hj hk aw lj lk fp de mj mk' hn
     ·simp only [fc, gV ho]
      exact (h1.trans he).eX _ _
end
end Go.Proofs.YtcogcbplmkcojaaGreatDoor
namespace Go.Proofs.YtcogcbplmkcojaaGreatDoor
open Go.RowKit
set_option linter.unusedVariables false
set_option linter.unusedSimpArgs false
section
variable {P : Program} {tab : a9} {ops : Array Oper} {ms : List Nat} {D : Nat → List Nat}
theorem zT {listed : Array Bool} (bH : listed.size = ops.size) {i : Nat} {o : Oper} (ho : ops[i]? = some o) (hl : listed.getD i false = false) (hb : ∀ j ∈ iC o, listed.getD j false = true) : i ∈ Region.ready .any ops listed := by
 have χ : i < listed.size := by rw [bH]; exact (Array.getElem?_eq_some_iff.1 ho).1
 rw [mem_ready]
 refine ⟨?_, o, ho, fun e he RE => hb e.on ?_⟩
 ·simp only [Array.getD_eq_getD_getElem?, Array.getElem?_eq_getElem χ, Option.getD_some] at hl ⊢; exact hl
 ·simp only [iC, List.mem_map, List.mem_filter]
  exact ⟨e, ⟨by simpa using he, RE⟩, rfl⟩
theorem z_ {listed : Array Bool} (bH : listed.size = ops.size) {i : Nat} (h : i ∈ Region.ready .any ops listed) : ∃ o, ops[i]? = some o ∧ listed.getD i false = false ∧ ∀ j ∈ iC o, listed.getD j false = true := by
 rw [mem_ready] at h
 obtain ⟨h0, o, ho, cT⟩ := h
 have χ : i < listed.size := by rw [bH]; exact (Array.getElem?_eq_some_iff.1 ho).1
 refine ⟨o, ho, ?_, fun j hj => ?_⟩
 ·simp only [Array.getD_eq_getD_getElem?, Array.getElem?_eq_getElem χ, Option.getD_some] at h0 ⊢; exact h0
 ·simp only [iC, List.mem_map, List.mem_filter] at hj
  obtain ⟨e, ⟨h1, h2⟩, rfl⟩ := hj
  exact cT e (by simpa using h1) h2
theorem A4 {L : Nat → Bool} : ∀ {W : List (Nat × AV)}, (∃ e ∈ W, L e.1 = false) → ∃ X i v Y, W = X ++ (i, v) :: Y ∧ L i = false ∧ ∀ e ∈ Y, L e.1 = true
 | [], h => by simp at h
 | (j, u) :: r, h => by
  by_cases hr : ∃ e ∈ r, L e.1 = false
  ·obtain ⟨X, i, v, Y, h1, h2, h3⟩ := A4 hr
   exact ⟨(j, u) :: X, i, v, Y, by rw [h1]; rfl, h2, h3⟩
  ·obtain ⟨e, he, hl⟩ := h
   rcases List.mem_cons.1 he with rfl | he
   ·exact ⟨[], j, u, r, rfl, hl, fun e he => by
     cases hL : L e.1 with
     | true => rfl
     | false => exact (hr ⟨e, he, hL⟩).elim⟩
   ·exact (hr ⟨e, he, hl⟩).elim
theorem E6 {x : Ord} {R : List (Nat × Nat)} {done : List Nat} {i : Nat} (h : dv ops ms x R done = true) (hx : x.head = some i) : i ∉ done := by
 cases x with
 | op k fl r =>
  cases hx
  simp only [dv, Bool.and_eq_true] at h
  obtain ⟨h, _⟩ := h
  split at h
  ·simp only [Bool.and_eq_true, List.all_eq_true] at h
   intro hi
   have := (h.1.2 _ hi).1
   simp at this
  ·cases h
 | nil => cases hx
 | race => cases hx
theorem ow {i q : Nat} (hi : i < ops.size) : ∀ {r : Ord} {R : List (Nat × Nat)} {done : List Nat}, dv ops ms r R done = true → q ∈ done → i ∉ done →
 (ms.getD i 0).testBit q = true ∨ (∃ oq oi, ops[q]? = some oq ∧ ops[i]? = some oi ∧ mJ ops oq oi = true) ∨ (q, i) ∈ R
 | .race a b, R, done, h, hq, hn => by
  simp only [dv] at h
  split at h
  ·rename_i j i2 hj tf
   simp only [Bool.and_eq_true] at h
   by_cases e : (q, i) = (j, i2)
   ·rcases ow hi h.2 hq hn with h1 | h1 | h1
    ·exact .inl h1
    ·exact .inr (.inl h1)
    ·rcases List.mem_cons.1 h1 with e2 | h1
     ·cases e; cases e2; exact absurd hq (E6 h.2 tf)
     ·exact .inr (.inr h1)
   ·rcases ow hi h.1.2 hq hn with h1 | h1 | h1
    ·exact .inl h1
    ·exact .inr (.inl h1)
    ·rcases List.mem_cons.1 h1 with e2 | h1
     ·exact (e e2).elim
     ·exact .inr (.inr h1)
  ·cases h
 | .nil, R, done, h, hq, hn => by
  simp only [dv, List.all_eq_true, List.mem_range] at h
  exact (hn (by simpa using h i hi)).elim
 | .op k fl r, R, done, h, hq, hn => by
  by_cases hk : k = i
  ·subst hk
   simp only [dv, Bool.and_eq_true] at h
   cases ho : ops[k]? with
   | none => rw [ho] at h; simp at h
   | some oi =>
    rw [ho] at h
    simp only [Bool.and_eq_true, List.all_eq_true, Bool.or_eq_true] at h
    rcases (h.1.1.2 q hq).2 with (h | h) | h
    ·exact .inl h
    ·refine .inr (.inl ?_)
     split at h
     ·rename_i oq nC; exact ⟨oq, oi, nC, rfl, h⟩
     ·cases h
    ·exact .inr (.inr (by simpa using h.1))
  ·simp only [dv, Bool.and_eq_true] at h
   exact ow hi h.2 (by simp [hq]) (by simp [hn]; exact fun e => hk e.symm)
variable {env0 : List (Nat × AV)} {O : ky} {K : St → Prop}
theorem B6 {x : Ord} {i : Nat} (hx : x.head = some i) : ∃ fl r, x = .op i fl r := by
 cases x with
 | op k fl r => cases hx; exact ⟨fl, r, rfl⟩
 | nil => cases hx
 | race => cases hx
theorem xZ {a b : Ord} {R : List (Nat × Nat)} {done : List Nat} (h : dv ops ms (.race a b) R done = true) :
 ∃ j fl r i Cv r', a = .op j fl r ∧ b = .op i Cv r' ∧ fW ops j = true ∧ fW ops i = true ∧ dv ops ms (.op j fl r) ((j, i) :: R) done = true ∧ dv ops ms (.op i Cv r') ((i, j) :: R) done = true := by
 simp only [dv] at h
 split at h
 ·rename_i j i hj hi
  simp only [Bool.and_eq_true] at h
  obtain ⟨fl, r, rfl⟩ := B6 hj
  obtain ⟨Cv, r', rfl⟩ := B6 hi
  exact ⟨j, fl, r, i, Cv, r', rfl, rfl, h.1.1.1, h.1.1.2, h.1.2, h.2⟩
 ·cases h
theorem rY {j : Nat} (h : fW ops j = true) : ∃ o, ops[j]? = some o ∧ mC o = false ∧ gW o = false := by
 unfold fW at h
 split at h
 ·rename_i o ho
  simp only [Bool.and_eq_true, Bool.not_eq_true'] at h
  exact ⟨o, ho, h.1, h.2⟩
 ·cases h
theorem Inv.rZ {L : Nat → Bool} {W : List (Nat × AV)} {rest : Ord} {R : List (Nat × Nat)} {H : AH} {c : Cx} {a : Act} {w : World} (h : Inv P tab ops ms D env0 O K L W rest R H c a w) {j : Nat} (hj : j ∈ W.map Prod.fst) (hc : fW ops j = true) : L j = true := by
 cases hL : L j with
 | true => rfl
 | false =>
  simp only [List.mem_map] at hj
  obtain ⟨⟨j', v⟩, hm, rfl⟩ := hj
  obtain ⟨X, Y, hW⟩ := List.append_of_mem hm
  obtain ⟨o, ho, h1, h2⟩ := rY hc
  rcases h.yh X j' v Y o hW hL ho with h3 | h3
  ·rw [h1] at h3; cases h3.1
  ·rw [h2] at h3; cases h3.1
theorem Inv.over {Q : Exit → Act → World → Prop} (hK : Good O K (Q .normal)) {listed : Array Bool} (bH : listed.size = ops.size) {W : List (Nat × AV)} {rest : Ord} {R : List (Nat × Nat)} {H : AH} {c : Cx} {a : Act} {w : World}
 (h : Inv P tab ops ms D env0 O K (fun i => listed.getD i false) W rest R H c a w) (hr : Region.ready .any ops listed = []) : Q .normal a w := by
 obtain ⟨W, rest, H, h, DD⟩ := h.advance
 have cT : ∀ e ∈ W, listed.getD e.1 false = true := by
  intro e he
  cases hL : listed.getD e.1 false with
  | true => rfl
  | false =>
   obtain ⟨X, i, v, Y, hW, hi, hY⟩ := A4 (L := fun i => listed.getD i false) ⟨e, he, hL⟩
   have hd := h.done
   rw [hW, List.map_append, List.map_cons] at hd
   obtain ⟨⟨oi, ho, hb, _⟩, _⟩ := (pp hd).1
   have := zT bH ho hi fun j hj => by
    have := hb j hj
    simp only [List.mem_map] at this
    obtain ⟨e', h1, rfl⟩ := this
    exact hY e' h1
   rw [hr] at this
   cases this
 have stuck : ∀ {q fl r R'}, dv ops ms (.op q fl r) R' (W.map Prod.fst) = true → False := by
  intro q fl r R' wj
  obtain ⟨d1, d2, d3⟩ := nc wj h.done
  obtain ⟨⟨FE, iJ, hb, aw⟩, _⟩ := d1
  have uE : listed.getD q false = false := by
   cases hL : listed.getD q false with
   | false => rfl
   | true => exact ((aw q (h.sub q hL)).1 rfl).elim
  have := zT bH iJ uE fun j hj => by
   have := hb j hj
   simp only [List.mem_map] at this
   obtain ⟨e', h1, rfl⟩ := this
   exact cT e' h1
  rw [hr] at this
  cases this
 rcases DD with rfl | ⟨q, fl, r, oq, rfl, ho, hq, wg⟩ | ⟨ra, rb, rfl⟩
 ·obtain ⟨e, he, hw⟩ := h.walk
  have hf : W.filter (fun e => listed.getD e.1 false) = W := List.filter_eq_self.2 cT
  have hs := h.sat
  rw [hf] at hs
  exact hK _ c a w (hs.Mr he) hw
 ·exact (stuck h.more).elim
 ·obtain ⟨j, fl, r, i, Cv, r', rfl, rfl, _, _, h1, _⟩ := xZ h.more
  exact (stuck h1).elim
theorem Inv.Jr (hT : bi P tab) (sk : xN ops ms) (nR : ∀ (i : Nat) o, ops[i]? = some o → kG O.N o = true) {L L' : Nat → Bool} {W : List (Nat × AV)} {rest : Ord} {R0 R : List (Nat × Nat)} {H : AH} {c : Cx} {a : Act} {w : World}
 (h : Inv P tab ops ms D env0 O K L W rest R0 H c a w) {i : Nat} {o : Oper} {un : List Nat} {r : Ord} (ho : ops[i]? = some o) (hl : L i = false) (hb : ∀ j ∈ iC o, L j = true) (eJ : L' i = true) (lJ : ∀ j, j ≠ i → L' j = L j)
 (hq : mC o = false) (wg : gW o = false) (hW : i ∉ W.map Prod.fst) (OA : ∃ e, fI e (fc ops env0 W) ∧ uv tab (γ P) ops D (.op i un r) ⟨e, H⟩ K) (wj : dv ops ms (.op i un r) R (W.map Prod.fst) = true) (OC : ∀ p ∈ R, p.1 = i ∨ p.1 ∈ W.map Prod.fst)
 {next : Act → World → Prop} {Q : Exit → Act → World → Prop} (hn : ∀ W rest R H c a w, Inv P tab ops ms D env0 O K L' W rest R H c a w → next a w) :
 if Region.wanted o (yielded ops a.tmps) then o.wp P a w next Q else next (a.put o.dst undef) w := by
 have CL : ∀ j, (ms.getD i 0).testBit j = true → L j = true := fun j hj => sk i j hj L h.closed fun o' iJ k hk => by rw [ho] at iJ; cases iJ; exact hb k hk
 have Oe : ∀ k j, L k = true → (ms.getD k 0).testBit j = true → L j = true := fun k j hk hj => sk k j hj L h.closed fun o' iJ q hq => h.closed k o' iJ hk q hq
 have up : ∀ j, L j = true → L' j = true := fun j hj => by
  by_cases e : j = i
  ·subst e; exact eJ
  ·rw [lJ j e]; exact hj
 have cm : wZ ops L' := fun k ok hk yD j hj => by
  by_cases e : k = i
  ·subst e; rw [ho] at hk; cases hk; exact up j (hb j hj)
  ·rw [lJ k e] at yD; exact up j (h.closed k ok hk yD j hj)
 have χ : i < ops.size := (Array.getElem?_eq_some_iff.1 ho).1
 obtain ⟨d1, d2, d3⟩ := nc wj h.done
 have N8 := d1
 obtain ⟨⟨FE, iJ, RB, aw⟩, _⟩ := d1
 rw [ho] at iJ; cases iJ
 obtain ⟨e, he, hw⟩ := OA
 simp only [Em] at hw
 rw [Γ] at hw
 obtain ⟨o', iJ, hw⟩ := hw
 rw [ho] at iJ; cases iJ
 rw [hq, wg] at hw
 simp only at hw
 have ld : tL ops o e (fc ops env0 (W.filter fun e => L e.1)) := B4 fun t ht => by
  rw [he t, qo fun e' kr hs => ?_]
  rcases (aw e'.1 (List.mem_map.2 ⟨e', kr, rfl⟩)).2 with iz | ⟨oj, a2, a3⟩ | pZ
  ·exact CL _ iz
  ·rw [gV a2] at hs
   exact ((apart_spec a3).2.1 t hs ht).elim
  ·exact h.rZ (List.mem_map.2 ⟨e', kr, rfl⟩) pZ
 refine LR hT hw ld (nR i o ho) h.sat fun v c' H' a' w' e' aF ka kr hk => ?_
 obtain ⟨hle, iw⟩ := hk
 have pZ : fW ops i = true := by unfold fW; rw [ho]; simp only [hq, wg]; rfl
 have Kb : ∀ e ∈ W, e.1 ≠ i := fun e he e' => hW (List.mem_map.2 ⟨e, he, e'⟩)
 refine hn ((i, v) :: W) r R H' c' a' w' ⟨?_, cm, fun j hj => ?_, fun X' j u Y' oj p7 hj fp => ?_, fun j k u u' n oj ok hj hk aw lj lk fp de mj mk' Ga => ?_, ⟨_, ?_, iw⟩, by simpa using N8, by simpa using d3, fun p hp => (OC p hp).elim (fun e => (by simp [e])) (fun e => List.mem_cons_of_mem _ e), fun q' x FE n AE I8 Mp Kc => (by
  rcases List.mem_cons.1 AE with e | AE
  ·cases e; rw [ho] at I8; cases I8; rw [wg] at Mp; cases Mp
  ·exact h.early q' x FE n AE I8 Mp Kc)⟩
 ·have hf : W.filter (fun e => L' e.1) = W.filter fun e => L e.1 := List.filter_congr fun e he => lJ e.1 (Kb e he)
  rw [List.filter_cons, eJ, if_pos rfl, hf]
  simp only [fc, gV ho]
  exact aF
 ·simp only [List.map_cons, List.mem_cons]
  by_cases e : j = i
  ·exact .inl e
  ·rw [lJ j e] at hj; exact .inr (h.sub j hj)
 ·cases X' with
  | nil =>
   simp only [List.nil_append, List.cons.injEq, Prod.mk.injEq] at p7
   obtain ⟨⟨rfl, rfl⟩, rfl⟩ := p7
   rw [eJ] at hj; cases hj
  | cons x X' =>
   simp only [List.cons_append, List.cons.injEq] at p7
   have M_ : (j, u) ∈ W := by rw [p7.2]; simp
   have e : j ≠ i := Kb _ M_
   rw [lJ j e] at hj
   have Ph : j ∈ W.map Prod.fst := List.mem_map.2 ⟨_, M_, rfl⟩
   have Q4 : j ∈ un := by
    rcases d2 pZ j Ph with h1 | h1 | h1
    ·have := CL _ h1; rw [hj] at this; cases this
    ·have := h.rZ Ph h1; rw [hj] at this; cases this
    ·exact h1
   have hle := hle j Q4
   exact (h.yh X' j u Y' oj p7.2 hj fp).imp (fun o => ⟨o.1, JV hle.le o.2⟩) fun o => ⟨o.1, vT o.2 (fun n b hn hb sj => by
    have hD := h.early j u oj n M_ fp o.1 hn
    have h1 := vk (D j) hb
    rw [if_neg hD] at h1
    exact (hle n b h1).resolve_left sj) fun n ν _ hb hf hg => ka n ν hb hf hg⟩
 ·have e1 : j ≠ i := fun e => by rw [e, eJ] at lj; cases lj
  have e2 : k ≠ i := fun e => by rw [e, eJ] at lk; cases lk
  rw [lJ j e1] at lj
  rw [lJ k e2] at lk
  have O2 : ∀ {q x}, q ≠ i → (q, x) ∈ (i, v) :: W → (q, x) ∈ W := fun {q x} hq hx => by
   rcases List.mem_cons.1 hx with e | hx
   ·cases e; exact (hq rfl).elim
   ·exact hx
  exact h.oJ j k u u' n oj ok (O2 e1 hj) (O2 e2 hk) aw lj lk fp de mj mk' Ga
 ·simp only [fc, gV ho]
  exact (kr.trans he).eX _ _
theorem Inv.step (hT : bi P tab) (sk : xN ops ms) (nR : ∀ (i : Nat) o, ops[i]? = some o → kG O.N o = true) {L L' : Nat → Bool} {W : List (Nat × AV)} {rest : Ord} {R : List (Nat × Nat)} {H : AH} {c : Cx} {a : Act} {w : World}
 (h : Inv P tab ops ms D env0 O K L W rest R H c a w) {i : Nat} {o : Oper} (ho : ops[i]? = some o) (hl : L i = false) (hb : ∀ j ∈ iC o, L j = true) (eJ : L' i = true) (lJ : ∀ j, j ≠ i → L' j = L j)
 {next : Act → World → Prop} {Q : Exit → Act → World → Prop} (hn : ∀ W rest R H c a w, Inv P tab ops ms D env0 O K L' W rest R H c a w → next a w) :
 if Region.wanted o (yielded ops a.tmps) then o.wp P a w next Q else next (a.put o.dst undef) w := by
 obtain ⟨W, rest, H, h, DD⟩ := h.advance
 have CL : ∀ j, (ms.getD i 0).testBit j = true → L j = true := fun j hj => sk i j hj L h.closed fun o' iJ k hk => by rw [ho] at iJ; cases iJ; exact hb k hk
 have Oe : ∀ k j, L k = true → (ms.getD k 0).testBit j = true → L j = true := fun k j hk hj => sk k j hj L h.closed fun o' iJ q hq => h.closed k o' iJ hk q hq
 have up : ∀ j, L j = true → L' j = true := fun j hj => by
  by_cases e : j = i
  ·subst e; exact eJ
  ·rw [lJ j e]; exact hj
 have cm : wZ ops L' := fun k ok hk yD j hj => by
  by_cases e : k = i
  ·subst e; rw [ho] at hk; cases hk; exact up j (hb j hj)
  ·rw [lJ k e] at yD; exact up j (h.closed k ok hk yD j hj)
 by_cases hW : i ∈ W.map Prod.fst
 ·simp only [List.mem_map] at hW
  obtain ⟨⟨i', v⟩, hm, rfl⟩ := hW
  obtain ⟨X, Y, rfl⟩ := List.append_of_mem hm
  simp only at ho hl hb eJ lJ CL
  have ob := h.yh X i' v Y o rfl hl ho
  have hd := h.done
  rw [List.map_append, List.map_cons] at hd
  obtain ⟨⟨⟨oi, iJ, aC, hY⟩, _⟩, hX⟩ := pp hd
  rw [ho] at iJ; cases iJ
  have Pt : ∀ e ∈ X, ∀ t, cL ops e.1 = some t → (t ∈ o.looksAt ops ∨ o.dst = some t) → L e.1 = false := fun e he t hs ht => by
   cases hL : L e.1 with
   | false => rfl
   | true =>
    rcases (hX e.1 (List.mem_map.2 ⟨e, he, rfl⟩)).2 with iz | ⟨oi, ok, a1, a2, a3⟩ | pZ
    ·have := Oe _ _ hL iz
     rw [hl] at this; cases this
    ·rw [ho] at a1; cases a1
     rw [gV a2] at hs
     obtain ⟨_, _, b3⟩ := apart_spec a3
     rcases ht with ht | ht
     ·exact ((b3 t hs).1 ht).elim
     ·exact ((b3 t hs).2 ht).elim
    ·have := h.rZ (j := i') (by simp) pZ
     rw [hl] at this; cases this
  have RG : ∀ e ∈ Y, ∀ t, cL ops e.1 = some t → t ∈ o.looksAt ops → L e.1 = true := fun e he t hs ht => by
   rcases (hY e.1 (List.mem_map.2 ⟨e, he, rfl⟩)).2 with iz | ⟨oj, a2, a3⟩ | pZ
   ·exact CL _ iz
   ·rw [gV a2] at hs
    exact ((apart_spec a3).2.1 t hs ht).elim
   ·exact h.rZ (List.mem_map.2 ⟨e, by simp [he], rfl⟩) pZ
  have ld : tL ops o (fc ops env0 Y) (fc ops env0 ((X ++ (i', v) :: Y).filter fun e => L e.1)) := B4 fun t ht => by
   rw [sU fun e he hs => Pt e he t hs (.inl ht), List.filter_cons, hl]
   simp only [Bool.false_eq_true, if_false]
   rw [qo fun e he hs => RG e he t hs ht]
  have go : ∀ c' a' w', Sat O c' ⟨eX o.dst v (fc ops env0 ((X ++ (i', v) :: Y).filter fun e => L e.1)), H⟩ a' w' →
   (∀ X' j u Y' oj, X ++ (i', v) :: Y = X' ++ (j, u) :: Y' → j ≠ i' → L j = false → ops[j]? = some oj → gW oj = true → wV tab ops O (D j) oj (fc ops env0 Y') H c u → wV tab ops O (D j) oj (fc ops env0 Y') H c' u) → next a' w' := by
   intro c' a' w' aF hM
   refine hn (X ++ (i', v) :: Y) rest R H c' a' w' ⟨?_, cm, fun j hj => ?_, fun X' j u Y' oj p7 hj fp => ?_, fun j k u u' n oj ok hj hk aw lj lk fp de mj mk' Ga => ?_, h.walk, h.done, h.more, h.oo, h.early⟩
   ·refine aF.Mr ?_
    have := uA (ops := ops) (env0 := env0) (v := v) hl eJ lJ (Y := Y) (fun e he => fun e' => (hY e.1 (List.mem_map.2 ⟨e, he, rfl⟩)).1 e'.symm) (X := X) (fun e he => (hX e.1 (List.mem_map.2 ⟨e, he, rfl⟩)).1)
     (fun e he t h1 h2 => Pt e he t h1 (.inr (by rw [← gV ho]; exact h2)))
    rw [gV ho] at this
    exact this
   ·by_cases e : j = i'
    ·subst e; simp
    ·rw [lJ j e] at hj; exact h.sub j hj
   ·have e : j ≠ i' := fun e => by rw [e, eJ] at hj; cases hj
    rw [lJ j e] at hj
    exact (h.yh X' j u Y' oj p7 hj fp).imp id fun k => ⟨k.1, hM X' j u Y' oj p7 e hj fp k.1 k.2⟩
   ·have e1 : j ≠ i' := fun e => by rw [e, eJ] at lj; cases lj
    have e2 : k ≠ i' := fun e => by rw [e, eJ] at lk; cases lk
    rw [lJ j e1] at lj
    rw [lJ k e2] at lk
    exact h.oJ j k u u' n oj ok hj hk aw lj lk fp de mj mk' Ga
  rcases ob with ⟨Tf, ob⟩ | ⟨ph, ob⟩
  ·exact Lf hT ob ld (nR i' o ho) h.sat fun c' a' w' aF ka => go c' a' w' aF fun X' j u Y' oj _ _ _ _ _ k => vT k (fun _ _ _ hb _ => hb) fun n ν _ hb hf hg => ka n ν hb hf hg
  ·refine IL hT ob ld (nR i' o ho) h.sat fun c' a' w' aF ka => go c' a' w' aF fun X' j u Y' oj p7 hj lj fp mj k => vT k (fun _ _ _ hb _ => hb) fun n ν hn hb hf hg => ka n (fun hv => ?_) hg
   exact h.oJ i' j v u n o oj (by simp) (by rw [p7]; simp) (Ne.symm hj) hl lj ho fp ph mj hv hn
 ·have χ : i < ops.size := (Array.getElem?_eq_some_iff.1 ho).1
  have other : ∀ {q fl r R' oq}, dv ops ms (.op q fl r) R' (W.map Prod.fst) = true → ops[q]? = some oq → mC oq = false → gW oq = false → i ≠ q → ((q, i) ∈ R' → q ∈ W.map Prod.fst) → False := by
   intro q fl r R' oq wj nC hq wg Kd hR
   obtain ⟨d1, d2, d3⟩ := nc wj h.done
   obtain ⟨⟨FE, iJ, RB, aw⟩, _⟩ := d1
   rcases ow (q := q) χ d3 (by simp) (by simp only [List.mem_cons, not_or]; exact ⟨Kd, hW⟩) with h1 | ⟨FE, oi, a1, a2, a3⟩ | h1
   ·exact (aw q (h.sub q (CL _ h1))).1 rfl
   ·rw [nC] at a1; cases a1
    have := (apart_spec a3).1
    rw [hq, wg] at this; cases this
   ·exact (aw q (hR h1)).1 rfl
  rcases DD with rfl | ⟨q, fl, r, oq, rfl, nC, hq, wg⟩ | ⟨ra, rb, rfl⟩
  ·have := h.more
   simp only [dv, List.all_eq_true, List.mem_range] at this
   exact (hW (by simpa using this i χ)).elim
  ·by_cases Kd : i = q
   ·subst Kd
    rw [ho] at nC; cases nC
    exact h.Jr hT sk nR ho hl hb eJ lJ hq wg hW h.walk h.more (fun p hp => .inr (h.oo p hp)) hn
   ·exact (other h.more nC hq wg Kd (fun hR => h.oo _ hR)).elim
  ·obtain ⟨j, fl, r, k, Cv, r', rfl, rfl, c1, c2, h1, h2⟩ := xZ h.more
   obtain ⟨oj, fp, pk, pX⟩ := rY c1
   obtain ⟨ok, de, cI, dA⟩ := rY c2
   obtain ⟨e, he, QW, QV⟩ := h.walk
   by_cases Gm : i = j
   ·subst Gm
    rw [ho] at fp; cases fp
    exact h.Jr hT sk nR ho hl hb eJ lJ pk pX hW ⟨e, he, QW⟩ h1 (fun p hp => by
     rcases List.mem_cons.1 hp with e | hp
     ·exact .inl (by rw [e])
     ·exact .inr (h.oo p hp)) hn
   ·by_cases Pj : i = k
    ·subst Pj
     rw [ho] at de; cases de
     exact h.Jr hT sk nR ho hl hb eJ lJ cI dA hW ⟨e, he, QV⟩ h2 (fun p hp => by
      rcases List.mem_cons.1 hp with e | hp
      ·exact .inl (by rw [e])
      ·exact .inr (h.oo p hp)) hn
    ·refine (other h1 fp pk pX Gm fun hR => ?_).elim
     rcases List.mem_cons.1 hR with e | hR
     ·cases e; exact (Pj rfl).elim
     ·exact h.oo _ hR
end
end Go.Proofs.YtcogcbplmkcojaaGreatDoor
namespace Go.Proofs.YtcogcbplmkcojaaGreatDoor
open Go.RowKit
set_option linter.unusedVariables false
set_option linter.unusedSimpArgs false
section
variable {P : Program} {tab : a9} {ops : Array Oper} {ms : List Nat} {D : Nat → List Nat} {env0 : List (Nat × AV)} {O : ky} {K : St → Prop}
theorem Inv.main (hT : bi P tab) (sk : xN ops ms) (nR : ∀ (i : Nat) o, ops[i]? = some o → kG O.N o = true) {Q : Exit → Act → World → Prop} (hK : Good O K (Q .normal)) :
 ∀ (jw : Nat) (listed : Array Bool) (W : List (Nat × AV)) (rest : Ord) (R : List (Nat × Nat)) (H : AH) (c : Cx) (a : Act) (w : World), listed.size = ops.size → (List.range ops.size).countP (fun i => !listed.getD i false) ≤ jw →
  Inv P tab ops ms D env0 O K (fun i => listed.getD i false) W rest R H c a w → wpAny P .any ops Q jw listed a w := by
 intro jw
 induction jw with
 | zero =>
  intro listed W rest R H c a w bH hc h
  have hr : Region.ready .any ops listed = [] := by
   refine List.eq_nil_iff_forall_not_mem.2 fun i hi => ?_
   obtain ⟨o, ho, hl, _⟩ := z_ bH hi
   have χ : i < ops.size := (Array.getElem?_eq_some_iff.1 ho).1
   have : 0 < (List.range ops.size).countP fun i => !listed.getD i false := List.countP_pos_iff.2 ⟨i, by simpa using χ, by rw [hl]; rfl⟩
   omega
  exact ⟨hr, h.over hK bH hr⟩
 | succ jw ih =>
  intro listed W rest R H c a w bH hc h
  refine ⟨fun hr => h.over hK bH hr, fun i hi => ?_⟩
  obtain ⟨o, ho, hl, hb⟩ := z_ bH hi
  have χ : i < ops.size := (Array.getElem?_eq_some_iff.1 ho).1
  have xA : i < listed.size := by omega
  have J7 : (listed.setIfInBounds i true).getD i false = true := by
   simp [Array.getD_eq_getD_getElem?, Array.getElem?_setIfInBounds_self_of_lt xA]
  have F_ : ∀ j, j ≠ i → (listed.setIfInBounds i true).getD j false = listed.getD j false := fun j hj => getD_set_ne false (Ne.symm hj)
  have Rx : (List.range ops.size).countP (fun i => !listed.getD i false) = (List.range ops.size).countP (fun j => !(listed.setIfInBounds i true).getD j false) + 1 :=
   wI (i := i) (by simp only [hl]; rfl) (by simp only [J7]; rfl) (fun j hj => by simp only [F_ j hj]) List.nodup_range (by simpa using χ)
  have := h.step hT sk nR ho hl hb (L' := fun j => (listed.setIfInBounds i true).getD j false) J7 F_ (Q := Q) (next := wpAny P .any ops Q jw (listed.setIfInBounds i true))
   fun W rest R H c a w hinv => ih _ W rest R H c a w (by simpa using bH) (by omega) hinv
  unfold wpOp
  rw [ho]
  simp only
  split
  ·rename_i hw; rw [if_pos hw] at this; exact .inl this
  ·rename_i hw; rw [if_neg hw] at this; exact this
end
section
variable {P : Program} {tab : a9}
theorem Sat.drawn {O c s a w} (h : Sat O c s a w) (n : Nat) : Sat O c s a { w with drawn := n } := by
 have ev : Ev w c s.H { w with drawn := n } c s.H := by
  refine ⟨rfl, Nat.le_refl _, fun b ν hb => ⟨ν, hb, ?_⟩, fun cb hm => .inl hm, fun _ _ _ => rfl, fun _ _ _ _ h => h⟩
  cases ν with
  | dead => trivial
  | box cs => exact ⟨rfl, fun _ h => h⟩
  | iter s p => exact ⟨rfl, fun _ h => h⟩
  | arr e s z g l => exact ⟨rfl, rfl, rfl, Nat.le_refl _, Nat.le_refl _, fun _ => ⟨rfl, fun _ h => ⟨h, rfl⟩⟩⟩
 have hs : HS { w with drawn := n } c s.H O.B := h.hs.aM ev h.hs.inj h.hs.base h.hs.jB (fun b cb cells hb hg => .inl ⟨hb, hg, rfl⟩) (fun b cb e s z g l hb hg => .inl ⟨hb, hg, rfl⟩) (fun b cb s p hb hg => .inl ⟨hb, hg, rfl⟩)
 exact h.go ev hs ⟨rfl, rfl, rfl, Nat.le_refl _, fun _ _ => rfl⟩
def Ip (P : Program) (tab : a9) : sc := fun ops s K => ∃ D σ, dv ops (vW ops) σ [] [] = true ∧ uv tab (γ P) ops D σ s K
theorem K6 (hT : bi P tab) (hm : P.follows .mixedOrders = true) : zg P tab (Ip P tab) := by
 intro O id ops s K h nR c a w R hs hK
 obtain ⟨D, σ, SQ, hw⟩ := h
 obtain ⟨env0, H⟩ := s
 refine wp_region_any hm ?_
 have MN : ∀ i, (Array.replicate ops.size false).getD i false = false := fun i => by
  simp only [Array.getD_eq_getD_getElem?, Array.getElem?_replicate]
  split <;> rfl
 refine Inv.main (env0 := env0) (O := O) (K := K) hT (IR ops) (fun i o ho => ?_) hK ops.size _ [] σ [] H c a _ (by simp) ?_ ⟨?_, fun i o _ hl => ?_, fun i hl => ?_, fun X i v Y o hW => ?_, fun i j v u n oi oj hi => (by cases hi), ⟨env0, .refl _, hw⟩, trivial, SQ, fun p hp => (by cases hp), fun i v o n hi => (by cases hi)⟩
 ·rw [List.all_eq_true] at nR
  exact nR o (List.mem_of_getElem? (by rw [Array.getElem?_toList]; exact ho))
 ·refine Nat.le_trans List.countP_le_length (by simp)
 ·exact hs.drawn _
 ·simp only [MN] at hl; cases hl
 ·simp only [MN] at hl; cases hl
 ·cases X <;> cases hW
end
end Go.Proofs.YtcogcbplmkcojaaGreatDoor
namespace Go.Proofs.YtcogcbplmkcojaaGreatDoor
open Go.RowKit
set_option linter.unusedVariables false
end Go.Proofs.YtcogcbplmkcojaaGreatDoor
namespace Go.Proofs.YtcogcbplmkcojaaGreatDoor
open Go.RowKit
set_option linter.unusedVariables false
set_option linter.unusedSimpArgs false
def uc : List Nat → Nat → Nat → Option Nat
 | [], _, _ => none
 | k :: r, b, i => match Nat.beq k b with | true => some i | false => uc r b (i + 1)
theorem rU : ∀ {aM : List Nat} {b i j : Nat}, uc aM b i = some j → i ≤ j ∧ aM[j - i]? = some b
 | [], b, i, j, h => by simp [uc] at h
 | k :: r, b, i, j, h => by
  simp only [uc] at h
  split at h
  ·rename_i hb
   cases h
   rw [Nat.eq_of_beq_eq_true hb]
   exact ⟨Nat.le_refl _, by simp⟩
  ·obtain ⟨h1, h2⟩ := rU h
   refine ⟨by omega, ?_⟩
   rw [show j - i = (j - (i + 1)) + 1 by omega]
   simpa using h2
def qm (k0 b g : Nat) : Nat := match Nat.blt b k0 with | true => g | false => 0
theorem Ab (k0 b g : Nat) (h : qm k0 b g % 2 = 1) : g % 2 = 1 := by
 unfold qm at h
 split at h
 ·exact h
 ·simp at h
mutual
def dJ (k0 : Nat) : Nat → List Nat → AH → AV → Option AV
 | 0, _, _, _ => none
 | k + 1, aM, H, v =>
  match v with
  | .t x => some (.t x)
  | .ptr b g i o =>
   match uc aM b 0 with
   | some b' =>
    (match H[b]? with
    | some (.arr _ _ _ gen _) => (match Nat.beq g gen with | true => some (.ptr b' (qm k0 b' g) i o) | false => none)
    | some (.box _) => some (.ptr b' g i o)
    | some (.iter _ _) => some (.ptr b' g i o)
    | _ => none)
   | none => none
  | .sl b g i n =>
   match uc aM b 0 with
   | some b' =>
    (match H[b]? with
    | some (.arr _ _ _ gen _) => (match Nat.beq g gen with | true => some (.sl b' (qm k0 b' g) i n) | false => none)
    | _ => none)
   | none => none
  | .agg cs => match nO k0 k aM H cs with | some cs => some (.agg cs) | none => none
  | .ao cs => match nO k0 k aM H cs with | some cs => some (.ao cs) | none => none
  | .fn f a b => match nO k0 k aM H a, nO k0 k aM H b with | some a, some b => some (.fn f a b) | _, _ => none
  | .bY t v => match dJ k0 k aM H v with | some v => some (.bY t v) | none => none
  | .dc => some .dc
  | .bj => some .bj
  | .own _ _ _ _ => none
def nO (k0 : Nat) : Nat → List Nat → AH → List AV → Option (List AV)
 | 0, _, _, _ => none
 | _ + 1, _, _, [] => some []
 | k + 1, aM, H, v :: r => match dJ k0 k aM H v, nO k0 k aM H r with | some v, some r => some (v :: r) | _, _ => none
end
def eH (k0 : Nat) (aM : List Nat) (H : AH) (i : Nat) : Ψ → Option Ψ
 | .dead => some .dead
 | .box cells => (nO k0 64 aM H cells).map .box
 | .iter s p => some (.iter s p)
 | .arr e s z g (.ts l) => some (.arr e s z (qm k0 i g) (.ts l))
 | .arr e s z g (.vs l) => (nO k0 64 aM H l).map fun l => .arr e s z (qm k0 i g) (.vs l)
theorem iV {k0 : Nat} : ∀ (k : Nat) {aM : List Nat} {H : AH} {l l' : List AV}, nO k0 k aM H l = some l' → l'.length = l.length ∧ ∀ (i : Nat) x', l'[i]? = some x' → ∃ x m, l[i]? = some x ∧ m < k ∧ dJ k0 m aM H x = some x'
 | 0, aM, H, l, l', h => by simp [nO] at h
 | k + 1, aM, H, [], l', h => by simp [nO] at h; subst h; simp
 | k + 1, aM, H, v :: r, l', h => by
  simp only [nO] at h
  split at h
  ·rename_i v' r' hv hr
   cases h
   obtain ⟨h1, h2⟩ := iV k hr
   refine ⟨by simp [h1], fun i x hi => ?_⟩
   cases i with
   | zero => simp at hi; subst hi; exact ⟨v, k, rfl, Nat.lt_succ_self k, hv⟩
   | succ i =>
    simp at hi
    obtain ⟨x0, m, a1, a2, a3⟩ := h2 i x hi
    exact ⟨x0, m, a1, by omega, a3⟩
  ·cases h
theorem rr {k0 k : Nat} {aM : List Nat} {H : AH} {v v' : AV} (h : dJ k0 k aM H v = some v') (h1 : v.one = true) : v'.one = true := by
 cases k with
 | zero => simp [dJ] at h
 | succ k =>
  cases v <;> simp only [dJ] at h
  ·cases h; exact h1
  ·split at h
   ·split at h
    ·split at h <;> first | (cases h; rfl) | cases h
    ·cases h; rfl
    ·cases h; rfl
    ·cases h
   ·cases h
  ·split at h
   ·split at h
    ·split at h <;> first | (cases h; rfl) | cases h
    ·cases h
   ·cases h
  ·simp [AV.one] at h1
  ·simp [AV.one] at h1
  ·split at h <;> first | (cases h; rfl) | cases h
  ·split at h <;> first | (cases h; rfl) | cases h
  ·cases h
  ·cases h; rfl
  ·simp [AV.one] at h1
structure Kept (k0 : Nat) (c : Cx) (H : AH) (aM : List Nat) (c' : Cx) (H' : AH) : Prop where
 M : ∀ cb, c'.M H' cb → c.M H cb
 at_ : ∀ (i : Nat) b, aM[i]? = some b → c'.G i = c.G b ∧ ∃ ν az, H[b]? = some ν ∧ H'[i]? = some az ∧ eH k0 aM H i ν = some az
theorem RA.j_ {k0 : Nat} {w : World} {c : Cx} {H : AH} {aM : List Nat} {c' : Cx} {H' : AH} (hk : Kept k0 c H aM c' H') {x : AV} {v : Value} (h : RA w c H x v) : ∀ {k : Nat} {x' : AV}, dJ k0 k aM H x = some x' → RA w c' H' x' v := by
 have list : ∀ {l l' : List AV} {vs : Nat → Option Value} {k : Nat}, (∀ (i : Nat) x v, l[i]? = some x → vs i = some v → ∀ {k : Nat} {x' : AV}, dJ k0 k aM H x = some x' → RA w c' H' x' v) → nO k0 k aM H l = some l' →
  l'.length = l.length ∧ (∀ (i : Nat) x v, l'[i]? = some x → vs i = some v → RA w c' H' x v) := by
  intro l l' vs k ih h
  obtain ⟨h1, h2⟩ := iV k h
  refine ⟨h1, fun i x v hi hv => ?_⟩
  obtain ⟨x0, m, a1, a2, a3⟩ := h2 i x hi
  exact ih i x0 v a1 hv a3
 induction h with
 | t x v h =>
  intro k x' hx
  cases k with
  | zero => simp [dJ] at hx
  | succ k => simp only [dJ] at hx; cases hx; exact .t x v (h.mono fun b _ hb => ⟨rfl, fun hm => hb (hk.M b hm)⟩)
 | ptr b g i o v ν hb hm hv =>
  intro k x' hx
  cases k with
  | zero => simp [dJ] at hx
  | succ k =>
   simp only [dJ] at hx
   split at hx
   ·rename_i b' hf
    obtain ⟨_, hf⟩ := rU hf
    obtain ⟨hG, nV, az, h1, h2, h3⟩ := hk.at_ b' b (by simpa using hf)
    rw [hb] at h1; cases h1
    rw [hb] at hx
    cases ν with
    | dead => simp at hx
    | box cells =>
     simp only [eH, Option.map_eq_some_iff] at h3
     obtain ⟨cs, _, rfl⟩ := h3
     simp only at hx
     cases hx
     exact .ptr b' g i o v _ h2 (by rw [hG]; exact hm) hv
    | iter s p =>
     simp only [eH, Option.some.injEq] at h3
     subst h3
     simp only at hx
     cases hx
     exact .ptr b' g i o v _ h2 (by rw [hG]; exact hm) hv
    | arr e s z gen l =>
     simp only at hx
     split at hx
     ·rename_i fq
      cases hx
      have fq := Nat.eq_of_beq_eq_true fq
      subst fq
      have : ∃ l', az = .arr e s z (qm k0 b' g) l' := by
       cases l with
       | ts l => simp [eH] at h3; exact ⟨_, h3.symm⟩
       | vs l =>
        simp only [eH, Option.map_eq_some_iff] at h3
        obtain ⟨l', _, rfl⟩ := h3
        exact ⟨_, rfl⟩
      obtain ⟨l', rfl⟩ := this
      exact .ptr b' _ i o v _ h2 ⟨Nat.le_refl _, fun _ => by rw [hG]; exact hm.2 rfl⟩ hv
     ·cases hx
   ·cases hx
 | sl b g i len v ν hb hm hv =>
  intro k x' hx
  cases k with
  | zero => simp [dJ] at hx
  | succ k =>
   simp only [dJ] at hx
   split at hx
   ·rename_i b' hf
    obtain ⟨_, hf⟩ := rU hf
    obtain ⟨hG, nV, az, h1, h2, h3⟩ := hk.at_ b' b (by simpa using hf)
    rw [hb] at h1; cases h1
    rw [hb] at hx
    cases ν with
    | dead => simp at hx
    | box cells => exact hm.elim
    | iter => exact hm.elim
    | arr e s z gen l =>
     simp only at hx
     split at hx
     ·rename_i fq
      cases hx
      have fq := Nat.eq_of_beq_eq_true fq
      subst fq
      have : ∃ l', az = .arr e s z (qm k0 b' g) l' ∧ l'.length = l.length := by
       cases l with
       | ts l => simp [eH] at h3; exact ⟨_, h3.symm, rfl⟩
       | vs l =>
        simp only [eH, Option.map_eq_some_iff] at h3
        obtain ⟨l', hl, rfl⟩ := h3
        exact ⟨_, rfl, (iV _ hl).1⟩
      obtain ⟨l', rfl, hl⟩ := this
      refine .sl b' _ i len v _ h2 ⟨Nat.le_refl _, fun _ => ?_⟩ hv
      simp only [hl, hG]; exact hm.2 rfl
     ·cases hx
   ·cases hx
 | agg cs vs hl h1 hr ih =>
  intro k x' hx
  cases k with
  | zero => simp [dJ] at hx
  | succ k =>
   simp only [dJ] at hx
   split at hx
   ·rename_i jC iK
    cases hx
    obtain ⟨a1, a2⟩ := list (vs := fun i => vs[i]?) (fun i x v hi hv => ih i x v hi hv) iK
    refine .agg jC vs (by omega) (fun i x hi => ?_) a2
    obtain ⟨x0, m, b1, _, b3⟩ := (iV _ iK).2 i x hi
    exact rr b3 (h1 i x0 b1)
   ·cases hx
 | ao cs vs hl hr ih =>
  intro k x' hx
  cases k with
  | zero => simp [dJ] at hx
  | succ k =>
   simp only [dJ] at hx
   split at hx
   ·rename_i jC iK
    cases hx
    obtain ⟨a1, a2⟩ := list (vs := fun i => vs[i]?) (fun i x v hi hv => ih i x v hi hv) iK
    exact .ao jC vs (by omega) a2
   ·cases hx
 | fn f first captured a b ha hb cY yt lG lF =>
  intro k x' hx
  cases k with
  | zero => simp [dJ] at hx
  | succ k =>
   simp only [dJ] at hx
   split at hx
   ·rename_i a' b' h1 h2
    cases hx
    obtain ⟨a1, a2⟩ := list (vs := fun i => a[i]?) (fun i x v hi hv => lG i x v hi hv) h1
    obtain ⟨b1, b2⟩ := list (vs := fun i => b[i]?) (fun i x v hi hv => lF i x v hi hv) h2
    exact .fn f a' b' a b (by omega) (by omega) a2 b2
   ·cases hx
 | bY t x v h ih =>
  intro k x' hx
  cases k with
  | zero => simp [dJ] at hx
  | succ k =>
   simp only [dJ] at hx
   split at hx
   ·rename_i y hy
    cases hx
    exact .bY t y v (ih hy)
   ·cases hx
 | dc ad =>
  intro k x' hx
  cases k with
  | zero => simp [dJ] at hx
  | succ k => simp only [dJ] at hx; cases hx; exact .dc ad
 | bj v =>
  intro k x' hx
  cases k with
  | zero => simp [dJ] at hx
  | succ k => simp only [dJ] at hx; cases hx; exact .bj v
theorem C6 {k0 k : Nat} {aM : List Nat} {H : AH} {v v' : AV} (h : dJ k0 k aM H v = some v') (hv : v.one = true ∨ ∃ cs, v = .agg cs ∨ ∃ l, v = .t (.agg l)) :
 v'.cells.length = v.cells.length ∧ ∀ (j : Nat) y', v'.cells[j]? = some y' → ∃ y m, v.cells[j]? = some y ∧ dJ k0 m aM H y = some y' := by
 have single : v.one = true → v'.cells.length = v.cells.length ∧ ∀ (j : Nat) y', v'.cells[j]? = some y' → ∃ y m, v.cells[j]? = some y ∧ dJ k0 m aM H y = some y' := by
  intro h1
  rw [AV.gT h1, AV.gT (rr h h1)]
  refine ⟨rfl, fun j y hj => ?_⟩
  cases j with
  | zero => simp at hj; subst hj; exact ⟨v, k, rfl, h⟩
  | succ j => simp at hj
 rcases hv with hv | ⟨cs, rfl | ⟨l, rfl⟩⟩
 ·exact single hv
 ·cases k with
  | zero => simp [dJ] at h
  | succ k =>
   simp only [dJ] at h
   split at h
   ·rename_i jC iK
    cases h
    obtain ⟨h1, h2⟩ := iV _ iK
    refine ⟨h1, fun j y hj => ?_⟩
    obtain ⟨x, m, a1, a2, a3⟩ := h2 j y hj
    exact ⟨x, m, a1, a3⟩
   ·cases h
 ·cases k with
  | zero => simp [dJ] at h
  | succ k =>
   simp only [dJ] at h
   cases h
   refine ⟨rfl, fun j y hj => ⟨y, 1, hj, ?_⟩⟩
   rw [T.dp] at hj
   simp only [List.getElem?_map, Option.map_eq_some_iff] at hj
   obtain ⟨c, _, rfl⟩ := hj
   rfl
def w8 (k0 : Nat) (aM : List Nat) (H : AH) (env : List (Nat × AV)) : List (Nat × AV) → Prop
 | [] => True
 | (t, v) :: r => dJ k0 40 aM H (lk env t) = some v ∧ w8 k0 aM H env r
theorem yW {k0 : Nat} {aM : List Nat} {H : AH} {env : List (Nat × AV)} : ∀ {env' : List (Nat × AV)}, w8 k0 aM H env env' → ∀ t, lk env' t = .bj ∨ dJ k0 40 aM H (lk env t) = some (lk env' t)
 | [], _, t => .inl rfl
 | (d, v) :: r, h, t => by
  rw [e9]
  by_cases e : d = t
  ·rw [if_pos e, ← e, h.1]; exact .inr rfl
  ·rw [if_neg e]; exact yW h.2 t
def zj (k0 : Nat) (aM : List Nat) (H : AH) : Nat → List Nat → AH → Prop
 | _, [], [] => True
 | i, b :: r, ν :: l => (H[b]?.bind (eH k0 aM H i)) = some ν ∧ zj k0 aM H (i + 1) r l
 | _, _, _ => False
theorem yP {k0 : Nat} {aM : List Nat} {H : AH} : ∀ {n : Nat} {r : List Nat} {l : AH}, zj k0 aM H n r l → r.length = l.length ∧ ∀ (i : Nat) b, r[i]? = some b → ∃ ν az, H[b]? = some ν ∧ l[i]? = some az ∧ eH k0 aM H (n + i) ν = some az
 | n, [], [], _ => by simp
 | n, [], _ :: _, h => h.elim
 | n, _ :: _, [], h => h.elim
 | n, b :: r, ν :: l, h => by
  obtain ⟨h1, h2⟩ := yP h.2
  refine ⟨by simp [h1], fun i b' hi => ?_⟩
  cases i with
  | zero =>
   simp at hi; subst hi
   have := h.1
   rw [Option.bind_eq_some_iff] at this
   obtain ⟨bk, a1, a2⟩ := this
   exact ⟨bk, ν, a1, rfl, a2⟩
  | succ i =>
   simp at hi
   obtain ⟨bk, PT, a1, a2, a3⟩ := h2 i b' hi
   exact ⟨bk, PT, a1, a2, by rw [show n + (i + 1) = n + 1 + i by omega]; exact a3⟩
def Gs (k0 : Nat) (aM : List Nat) : Bool := decide (aM.Nodup) && Nat.ble k0 aM.length && (List.range k0).all fun i => match aM[i]? with | some b => Nat.beq b i | none => false
theorem Jm {k0 : Nat} {aM : List Nat} {H : AH} {w0 w : World} {c0 c c' : Cx} {b : Nat} {nV ν az : Ψ} (hb : b < k0) (h : Ψ.goes w0 c0 w c b nV ν) (hr : eH k0 aM H b ν = some az) (hG : c'.G b = c.G b) : Ψ.goes w0 c0 w c' b nV az := by
 cases ν with
 | dead => simp [eH] at hr; subst hr; cases nV <;> trivial
 | box cells =>
  simp only [eH, Option.map_eq_some_iff] at hr
  obtain ⟨cs, iK, rfl⟩ := hr
  have hl := (iV _ iK).1
  cases nV with
  | dead => exact h.elim
  | arr => exact h.elim
  | iter => exact h.elim
  | box TJ => exact ⟨h.1.trans hl.symm, fun cb hc => by rw [hG]; exact h.2 cb hc⟩
 | iter s p =>
  simp only [eH, Option.some.injEq] at hr
  subst hr
  cases nV with
  | dead => exact h.elim
  | arr => exact h.elim
  | box => exact h.elim
  | iter s0 p0 => exact ⟨h.1, fun cb hc => by rw [hG]; exact h.2 cb hc⟩
 | arr e s z g l =>
  have Gc : qm k0 b g = g := by rw [qm, show Nat.blt b k0 = true from by rw [Nat.blt_eq]; exact hb]
  have : ∃ l', az = .arr e s z g l' ∧ l'.length = l.length := by
   rw [← Gc]
   cases l with
   | ts l => simp [eH] at hr; exact ⟨_, hr.symm, rfl⟩
   | vs l =>
    simp only [eH, Option.map_eq_some_iff] at hr
    obtain ⟨l', hl, rfl⟩ := hr
    exact ⟨_, rfl, (iV _ hl).1⟩
  obtain ⟨l', rfl, hl⟩ := this
  cases nV with
  | dead => exact h.elim
  | box => exact h.elim
  | iter => exact h.elim
  | arr e0 s0 z0 g0 l0 =>
   obtain ⟨a1, a2, a3, a4, a5, a6⟩ := h
   exact ⟨a1, a2, a3, by omega, a5, fun he => ⟨by rw [hl]; exact (a6 he).1, fun cb hc => by rw [hG]; exact (a6 he).2 cb hc⟩⟩
theorem π {k0 : Nat} {s s' : St} (aM : List Nat) (hd : Gs k0 aM = true) (h : w8 k0 aM s.H s.env s'.env) (hB : zj k0 aM s.H 0 aM s'.H) : aX k0 s s' := by
 intro O c a w dk hs
 subst dk
 simp only [Gs, Bool.and_eq_true, decide_eq_true_eq, List.all_eq_true, List.mem_range] at hd
 obtain ⟨⟨sj, hlen⟩, qs⟩ := hd
 have hlen := Nat.le_of_ble_eq_true hlen
 have qs : ∀ i, i < O.H0.length → aM[i]? = some i := fun i hi => by
  have := qs i hi
  cases hk : aM[i]? with
  | none => rw [hk] at this; cases this
  | some b => rw [hk] at this; rw [Nat.eq_of_beq_eq_true this]
 obtain ⟨PD, ND⟩ := yP hB
 let c' : Cx := ⟨c.F, fun i => aM[i]?.bind c.G⟩
 have hG : ∀ i cb, c'.G i = some cb → ∃ b, aM[i]? = some b ∧ c.G b = some cb := fun i cb hg => by
  simp only [c', Option.bind_eq_some_iff] at hg; exact hg
 have lP : ∀ i az, s'.H[i]? = some az → ∃ b ν, aM[i]? = some b ∧ s.H[b]? = some ν ∧ eH O.H0.length aM s.H i ν = some az := fun i az hi => by
  have χ := ι hi
  obtain ⟨ν, PT, h1, h2, h3⟩ := ND i _ (List.getElem?_eq_getElem (by omega))
  rw [hi] at h2; cases h2
  exact ⟨_, ν, List.getElem?_eq_getElem (by omega), h1, by rw [Nat.zero_add] at h3; exact h3⟩
 have live : ∀ {i : Nat} {ν az : Ψ}, eH O.H0.length aM s.H i ν = some az → az.live = true → ν.live = true := by
  intro i ν az h1 h2
  cases ν with
  | dead => simp [eH] at h1; subst h1; exact h2
  | box => rfl
  | iter => rfl
  | arr => rfl
 have hM : ∀ cb, c'.M s'.H cb → c.M s.H cb := by
  rintro cb (hf | ⟨i, az, hi, hl, hg⟩)
  ·exact .inl hf
  ·obtain ⟨b, hb, hg⟩ := hG i cb hg
   obtain ⟨b2, ν, iz, h1, h2⟩ := lP i az hi
   rw [hb] at iz; cases iz
   exact .inr ⟨b, ν, h1, live h2 hl, hg⟩
 have hO : ∀ cb, c'.O s'.H cb → c.O s.H cb := by
  rintro cb ⟨i, az, hi, hl, hg⟩
  obtain ⟨b, hb, hg⟩ := hG i cb hg
  obtain ⟨b2, ν, iz, h1, h2⟩ := lP i az hi
  rw [hb] at iz; cases iz
  exact ⟨b, ν, h1, live h2 hl, hg⟩
 have hk : Kept O.H0.length c s.H aM c' s'.H := ⟨hM, fun i b hi => ⟨by simp [c', hi], by
  obtain ⟨ν, az, h1, h2, h3⟩ := ND i b hi
  exact ⟨ν, az, h1, h2, by rw [Nat.zero_add] at h3; exact h3⟩⟩⟩
 have aF : HS w c' s'.H O.B := by
  refine ⟨fun i j cb h1 h2 => ?_, fun i cb h1 => ?_, fun cb hf => ⟨(hs.hs.fb cb hf).1, fun i hg => by obtain ⟨b, _, a2⟩ := hG i cb hg; exact (hs.hs.fb cb hf).2 b a2⟩, hs.hs.hB, fun i cb h1 => ?_, fun i cb cells hi hg => ?_, fun i cb e s1 z g l hi hg => ?_, fun i cb s1 p hi hg => ?_⟩
  ·obtain ⟨b, a1, a2⟩ := hG i cb h1
   obtain ⟨b', b1, b2⟩ := hG j cb h2
   have := hs.hs.inj b b' cb a2 b2
   subst this
   exact (List.getElem?_inj (ι a1) sj).1 (a1.trans b1.symm)
  ·obtain ⟨b, a1, a2⟩ := hG i cb h1
   exact hs.hs.base b cb a2
  ·obtain ⟨b, a1, a2⟩ := hG i cb h1
   have := ι a1
   omega
  ·obtain ⟨b, a1, a2⟩ := hG i cb hg
   obtain ⟨b2, ν, b1, G7, b3⟩ := lP i _ hi
   rw [a1] at b1; cases b1
   cases ν with
   | dead => simp [eH] at b3
   | iter => simp [eH] at b3
   | arr e s2 z g l => cases l <;> simp [eH] at b3
   | box wK =>
    simp only [eH, Option.map_eq_some_iff, Ψ.box.injEq] at b3
    obtain ⟨cs, iK, rfl⟩ := b3
    obtain ⟨hl, iy⟩ := iV _ iK
    obtain ⟨arr, e, h1, h2, h3⟩ := hs.hs.box b cb wK G7 a2
    refine ⟨arr, e, h1, by omega, fun j x v hj hv => ?_⟩
    obtain ⟨x0, m, d1, d2, d3⟩ := iy j x hj
    obtain ⟨e1, e2, e3⟩ := h3 j x0 v d1 hv
    exact ⟨rr d3 e1, e2.j_ hk d3, e3⟩
  ·obtain ⟨b, a1, a2⟩ := hG i cb hg
   obtain ⟨b2, ν, b1, G7, b3⟩ := lP i _ hi
   rw [a1] at b1; cases b1
   cases ν with
   | dead => simp [eH] at b3
   | box wK => simp [eH] at b3
   | iter => simp [eH] at b3
   | arr e0 s0 z0 g0 l0 =>
    obtain ⟨arr, cap, h1, h2, h3, h4, h5⟩ := hs.hs.arr b cb e0 s0 z0 g0 l0 G7 a2
    cases l0 with
    | ts l0 =>
     simp [eH] at b3
     obtain ⟨rfl, rfl, rfl, fq, rfl⟩ := b3
     refine ⟨arr, cap, h1, h2, ⟨h3.1, fun h => h3.2 (Ab _ _ _ (by rw [fq]; exact h))⟩, h4, dh.ts.2 fun k x iw => ⟨(dh.ts.1 h5 k x iw).1, fun j y hj => ?_⟩⟩
     obtain ⟨v, k1, k2, k3, k4⟩ := (dh.ts.1 h5 k x iw).2 j y hj
     exact ⟨v, k1, k2, k3.mono fun b _ hb => ⟨rfl, fun hm => hb (hM b hm)⟩, k4⟩
    | vs l0 =>
     simp only [eH, Option.map_eq_some_iff] at b3
     obtain ⟨l', td, b3⟩ := b3
     cases b3
     obtain ⟨hl, iy⟩ := iV _ td
     refine ⟨arr, cap, h1, h2, by simp only [Sq.length] at h3 ⊢; exact ⟨by omega, fun h => hl.trans (h3.2 (Ab _ _ _ h))⟩, h4, fun k x iw => ?_⟩
     obtain ⟨x0, m, d1, d2, d3⟩ := iy k x iw
     obtain ⟨q1, q2⟩ := h5 k x0 d1
     have eD : x0.one = true ∨ ∃ cs, x0 = .agg cs ∨ ∃ l, x0 = .t (.agg l) := by
      cases m with
      | zero => simp [dJ] at d3
      | succ m =>
       cases x0 with
       | agg cs => exact .inr ⟨cs, .inl rfl⟩
       | t x => cases x <;> first | exact .inl rfl | exact .inr ⟨[], .inr ⟨_, rfl⟩⟩
       | ao cs => have := q2 0 (.ao cs) (by simp [AV.cells]); obtain ⟨_, _, h, _⟩ := this; simp [AV.one] at h
       | own => simp [dJ] at d3
       | bj => have := q2 0 .bj (by simp [AV.cells]); obtain ⟨_, _, h, _⟩ := this; simp [AV.one] at h
       | _ => exact .inl rfl
     obtain ⟨r1, r2⟩ := C6 d3 eD
     refine ⟨by omega, fun j y hj => ?_⟩
     obtain ⟨y0, m', s1, s2⟩ := r2 j y hj
     obtain ⟨v, t1, t2, t3, t4⟩ := q2 j y0 s1
     exact ⟨v, t1, rr s2 t2, t3.j_ hk s2, t4⟩
  ·obtain ⟨b, a1, a2⟩ := hG i cb hg
   obtain ⟨b2, ν, b1, G7, b3⟩ := lP i _ hi
   rw [a1] at b1; cases b1
   cases ν with
   | dead => simp [eH] at b3
   | box wK => simp [eH] at b3
   | arr e s2 z g l => cases l <;> simp [eH] at b3
   | iter s0 p0 =>
    simp only [eH, Option.some.injEq, Ψ.iter.injEq] at b3
    obtain ⟨rfl, rfl⟩ := b3
    exact hs.hs.iter b cb s0 p0 G7 a2
 refine ⟨c', fun t => ?_, aF, hs.size, hs.defers, ?_, hs.below⟩
 ·rcases yW h t with e | e
  ·rw [e]; exact .bj _
  ·exact (hs.env t).j_ hk e
 ·refine ⟨hs.ev.F, hs.ev.size, fun b nV hb => ?_, fun cb hm => hs.ev.qn cb (hO cb hm), hs.ev.mem, fun b nV hb hf hg => ?_⟩
  ·have χ := ι hb
   obtain ⟨ν, h1, h2⟩ := hs.ev.ν b nV hb
   obtain ⟨bk, az, k1, k2, k3⟩ := ND b b (qs b χ)
   rw [h1] at k1; cases k1
   exact ⟨az, k2, Jm χ h2 (by rw [Nat.zero_add] at k3; exact k3) (by simp [c', qs b χ])⟩
  ·have χ := ι hb
   simp only [c', qs b χ, Option.bind_some]
   exact hs.ev.late b nV hb hf hg
end Go.Proofs.YtcogcbplmkcojaaGreatDoor
namespace Go.Proofs.YtcogcbplmkcojaaGreatDoor
open Go.RowKit
set_option linter.unusedVariables false
set_option linter.unusedSimpArgs false
theorem tW {w c H B} (hs : HS w c H B) (X : AH) {b cb : Nat} {ν : Ψ} (hg : c.G b = some cb) (hb : (H ++ X)[b]? = some ν) : H[b]? = some ν := by
 rwa [List.getElem?_append_left (hs.jB b cb hg)] at hb
theorem CB {w c H B} (hs : HS w c H B) (X : AH) : Ev w c H w c (H ++ X) := by
 have h := Ev.refl w c H
 refine ⟨rfl, Nat.le_refl _, fun b ν hb => ?_, fun cb hm => .inl ?_, fun _ _ _ => rfl, fun _ _ _ _ h => h⟩
 ·obtain ⟨az, h1, h2⟩ := h.ν b ν hb
  exact ⟨az, by rw [List.getElem?_append_left (ι h1)]; exact h1, h2⟩
 ·obtain ⟨b, bk, hb, hl, hg⟩ := hm
  exact ⟨b, bk, tW hs X hg hb, hl, hg⟩
theorem Lx {w c H B} (hs : HS w c H B) (X : AH) : HS w c (H ++ X) B :=
 hs.aM (CB hs X) hs.inj hs.base (fun b cb hg => by have := hs.jB b cb hg; rw [List.length_append]; omega) (fun b cb cells hb hg => .inl ⟨tW hs X hg hb, hg, rfl⟩)
  (fun b cb e s z g l hb hg => .inl ⟨tW hs X hg hb, hg, rfl⟩) (fun b cb s p hb hg => .inl ⟨tW hs X hg hb, hg, rfl⟩)
theorem aX.more {k0 : Nat} {env : List (Nat × AV)} {H : AH} (X : AH) : aX k0 ⟨env, H⟩ ⟨env, H ++ X⟩ := fun O c a w _ hs =>
 ⟨c, hs.go (CB hs.hs X) (Lx hs.hs X) (Below.refl _ _)⟩
theorem aX.Qv {k0 : Nat} {env : List (Nat × AV)} {H : AH} {b e s : Nat} {z : Bool} {g : Nat} (hb : H[b]? = some (.arr e s z g (.ts []))) : aX k0 ⟨env, H⟩ ⟨env, H.set b (.arr e s z g (.vs []))⟩ := fun O c a w _ hs => by
 have Gv := ι hb
 have get : ∀ (i : Nat) ν, (H.set b (.arr e s z g (.vs [])))[i]? = some ν → (i = b ∧ ν = .arr e s z g (.vs [])) ∨ (i ≠ b ∧ H[i]? = some ν) := fun i ν h => by
  rw [List.getElem?_set] at h
  by_cases hi : b = i
  ·subst hi; rw [if_pos rfl, if_pos Gv] at h; exact .inl ⟨rfl, (Option.some.inj h).symm⟩
  ·rw [if_neg hi] at h; exact .inr ⟨fun e => hi e.symm, h⟩
 have h0 := Ev.refl w c H
 have ev : Ev w c H w c (H.set b (.arr e s z g (.vs []))) := by
  refine ⟨rfl, Nat.le_refl _, fun i ν hi => ?_, fun cb hm => .inl ?_, fun _ _ _ => rfl, fun _ _ _ _ h => h⟩
  ·by_cases lO : b = i
   ·subst lO
    rw [hb] at hi; cases hi
    exact ⟨.arr e s z g (.vs []), by rw [List.getElem?_set, if_pos rfl, if_pos Gv], rfl, rfl, rfl, Nat.le_refl _, Nat.le_refl _, fun _ => ⟨rfl, fun _ h => ⟨h, rfl⟩⟩⟩
   ·obtain ⟨az, h1, h2⟩ := h0.ν i ν hi
    exact ⟨az, by rw [List.getElem?_set, if_neg lO]; exact h1, h2⟩
  ·obtain ⟨i, bk, hi, hl, hg⟩ := hm
   rcases get i bk hi with ⟨rfl, rfl⟩ | ⟨_, hi⟩
   ·exact ⟨i, _, hb, rfl, hg⟩
   ·exact ⟨i, bk, hi, hl, hg⟩
 refine ⟨c, hs.go ev (hs.hs.aM ev hs.hs.inj hs.hs.base (fun i cb hg => by rw [List.length_set]; exact hs.hs.jB i cb hg) (fun i cb cells hi hg => ?_) (fun i cb e' s' z' g' l hi hg => ?_) (fun i cb s' p hi hg => ?_)) (Below.refl _ _)⟩
 ·rcases get i _ hi with ⟨_, h⟩ | ⟨_, hi⟩
  ·cases h
  ·exact .inl ⟨hi, hg, rfl⟩
 ·rcases get i _ hi with ⟨rfl, h⟩ | ⟨_, hi⟩
  ·cases h
   obtain ⟨arr, cap, a1, a2, a3, a4, _⟩ := hs.hs.arr i cb e s z g _ hb hg
   exact .inr ⟨arr, cap, a1, a2, a3, a4, fun k x hk => by simp [Sq.get] at hk⟩
  ·exact .inl ⟨hi, hg, rfl⟩
 ·rcases get i _ hi with ⟨_, h⟩ | ⟨_, hi⟩
  ·cases h
  ·exact .inl ⟨hi, hg, rfl⟩
theorem D8.at {k0 : Nat} {body : (Ex → St → Prop) → St → Prop} {Q : Ex → St → Prop} {s s' : St} (h0 : aX k0 s s') (h : D8 k0 body Q s') : uq k0 body Q s := by
 obtain ⟨I, S, μ, i, h1, h2⟩ := h
 exact ⟨0, I, S, μ, i, h0.trans h1, h2⟩
end Go.Proofs.YtcogcbplmkcojaaGreatDoor
namespace Go.Proofs.YtcogcbplmkcojaaGreatDoor
open Go.RowKit
set_option linter.unusedVariables false
theorem pY {w : World} {c : Cx} {B : Nat} : ∀ (D : List Nat) {H : AH}, HS w c H B → Ev w c H w c (dY D H) ∧ HS w c (dY D H) B
 | [], H, hs => ⟨Ev.refl _ _ _, hs⟩
 | b :: r, H, hs => by
  obtain ⟨e1, h1⟩ := kill hs b
  obtain ⟨e2, h2⟩ := pY r h1
  exact ⟨e1.trans e2, h2⟩
theorem rP : ∀ (D : List Nat) (H : AH), (dY D H).length = H.length
 | [], H => rfl
 | b :: r, H => by simp only [dY]; rw [rP r]; simp
theorem γ.PK {P : Program} {f : FuncId} {args : List AV} {ts : List T} {ids : List Nat} {r : AV} {H : AH} {Q : AV → AH → Prop} (h : φ P f ts r) (ha : gv 32 H args = some (ts, ids))
 (k : Q (imp H.length r).1 (dY ids H ++ (imp H.length r).2)) : γ P f args H Q := by
 intro B c w vs hs hl hr
 obtain ⟨ev, aF⟩ := pY ids hs
 obtain ⟨hlen, iu⟩ := mn hs (M' := c.M (dY ids H)) (fun cb hm => by
  rcases hm with hm | ⟨b, ν, hb, gZ, hg⟩
  ·exact .inl hm
  ·rcases gR ids hb with rfl | ⟨_, hb⟩
   ·simp [Ψ.live] at gZ
   ·exact .inr ⟨b, ν, hb, gZ, hg⟩) 32 ha (vs := vs.toList) (by simpa using hl.symm) (fun i x v hi hv => hr i x v hi (by simpa using hv))
  (fun b hb cb hg hm => by
   rcases hm with hm | ⟨b2, ν, iz, gZ, kg⟩
   ·exact ((hs.fb cb hm).2 b hg).elim
   ·have := hs.inj b b2 cb hg kg
    subst this
    rcases gR ids iz with rfl | ⟨hn, _⟩
    ·simp [Ψ.live] at gZ
    ·exact hn hb)
 have pe : ic (ts.map .t) = some ts := by
  clear iu hlen ha h
  induction ts with
  | nil => rfl
  | cons x r ih => simp only [List.map_cons, ic, xe, ih]
 have key := γ.pure (H := dY ids H) (Q := Q) h pe (by rw [rP]; exact k) B c w vs aF (by rw [List.length_map]; omega) (ov fun i x v hi hv => iu i x v hi (by simpa using hv))
 refine key.mono ?_
 rintro e w' ⟨v, c', r', H', he, h1, h2, h3, h4, h5⟩
 exact ⟨v, c', r', H', he, h1, h2, ev.trans h3, h4, h5⟩
end Go.Proofs.YtcogcbplmkcojaaGreatDoor
namespace Go.Proofs.YtcogcbplmkcojaaGreatDoor
open Go.ChangeShapes Go.WideShapes Go.ChangeAt Go.RowKit
set_option linter.unusedVariables false
set_option linter.unusedSimpArgs false
inductive fJ (P : Program) : TypeId → List T → Prop
 | bool {t} (ht : P.underlying t = some .bool) (b : Bool) : fJ P t [.bool b]
 | int {t k} (ht : P.underlying t = some (.int k)) (n : Int) (hw : (Lit.int k n).wf = true) : fJ P t [.int k n]
 | str {t} (ht : P.underlying t = some .string) (s : List UInt8) (hl : s.length ≤ reachBytes) : fJ P t [.str s]
 | av {t e} (ht : P.underlying t = some (.slice e)) : fJ P t [.av]
 | vec {t e} (ht : P.underlying t = some (.slice e)) (l : List (List T)) (hl : l.length ≤ maxLen) (hb : l.length * P.bytesOf e ≤ reachBytes) (h : ∀ (i : Nat) cs, l[i]? = some cs → fJ P e cs) : fJ P t [.vec (P.cellsOf e) (l.map (dV (P.cellsOf e)))]
 | struct {t fs} (ht : P.underlying t = some (.struct fs)) (cs : List T) (hl : cs.length = P.cellsOf t) (h : ∀ f ∈ fs.toList, fJ P f.type ((cs.drop f.offset).take (P.cellsOf f.type))) : fJ P t cs
 | array {t n e} (ht : P.underlying t = some (.array n e)) (cs : List T) (hl : cs.length = P.cellsOf t) (h : ∀ i, i < n → fJ P e ((cs.drop (i * P.cellsOf e)).take (P.cellsOf e))) : fJ P t cs
def sw (P : Program) (n : Nat) : Nat → List Field → Bool
 | o, [] => Nat.beq o n
 | o, f :: r => Nat.beq f.offset o && sw P n (o + P.cellsOf f.type) r
def qC (P : Program) (S : List TypeId) (t : TypeId) : Bool :=
 match P.underlying t with
 | some .bool => true
 | some (.int _) => true
 | some .string => true
 | some (.slice e) => S.contains e && Nat.ble 1 (P.cellsOf e)
 | some (.struct fs) => fs.toList.all (fun f => S.contains f.type) && sw P (P.cellsOf t) 0 fs.toList
 | some (.array n e) => S.contains e && Nat.beq (n * P.cellsOf e) (P.cellsOf t)
 | _ => false
def oO (P : Program) (S : List TypeId) : Bool := S.all (qC P S)
def nj {H : Type} (P : Program) (t : TypeId) (d : DataW H) : Prop := ∀ n ∈ d.weights P t, n ≤ reachBytes
theorem sV {H : Type} {P : Program} {e : TypeId} : ∀ {l : List (DataW H)}, (∀ n ∈ DataW.weightsAll P e l, n ≤ reachBytes) → ∀ d ∈ l, nj P e d
 | [], _, d, hd => by simp at hd
 | a :: r, h, d, hd => by
  simp only [DataW.weightsAll, List.mem_append] at h
  rcases List.mem_cons.1 hd with rfl | hd
  ·exact fun n hn => h n (.inl hn)
  ·exact sV (fun n hn => h n (.inr hn)) d hd
theorem vZ {H : Type} {P : Program} : ∀ {ts : List TypeId} {l : List (DataW H)}, (∀ n ∈ DataW.weightsEach P ts l, n ≤ reachBytes) → ∀ (i : Nat) t d, ts[i]? = some t → l[i]? = some d → nj P t d
 | [], l, _, i, t, d, hi, _ => by simp at hi
 | _ :: _, [], _, i, t, d, _, hi => by simp at hi
 | a :: ts, b :: r, h, i, t, d, hi, hd => by
  simp only [DataW.weightsEach, List.mem_append] at h
  cases i with
  | zero => simp at hi hd; subst hi hd; exact fun n hn => h n (.inl hn)
  | succ i => simp at hi hd; exact vZ (fun n hn => h n (.inr hn)) i t d hi hd
def Cells (w : World) (ts : List T) (cs : List Value) : Prop := ts.length = cs.length ∧ ∀ (i : Nat) c v, ts[i]? = some c → cs[i]? = some v → RT w (fun _ => False) c v ∧ c.one = true
theorem Cells.append {w : World} {a b : List T} {c d : List Value} (h : Cells w a c) (k : Cells w b d) : Cells w (a ++ b) (c ++ d) := by
 refine ⟨by simp [h.1, k.1], fun i x v hi hv => ?_⟩
 by_cases χ : i < a.length
 ·rw [List.getElem?_append_left χ] at hi
  rw [List.getElem?_append_left (by rw [← h.1]; exact χ)] at hv
  exact h.2 i x v hi hv
 ·rw [List.getElem?_append_right (by omega)] at hi
  rw [List.getElem?_append_right (by rw [← h.1]; omega), ← h.1] at hv
  exact k.2 _ x v hi hv
section
variable {H : Type} {enc : TypeId × Value → H} {P : Program} {w : World} {sp : Nat → Bool} {held : Bool}
theorem yJ {m n : Nat} {cs : List Value} {S : List TypeId} (iK : cs.length = n)
 (ih : ∀ (t : TypeId) (cs : List Value) x, t ∈ S → DataW.trod enc P w 0 sp held m t cs = some x → nj P t x.1 → ∃ ts, fJ P t ts ∧ Cells w ts cs) :
 ∀ (l : List Field) (o : Nat), o ≤ n → sw P n o l = true → (∀ f ∈ l, f.type ∈ S ∧ ∃ x, DataW.trod enc P w 0 sp held m f.type ((cs.drop f.offset).take (P.cellsOf f.type)) = some x ∧ nj P f.type x.1) → (∀ f ∈ l, f.offset + P.cellsOf f.type ≤ n) →
  ∃ ts, Cells w ts (cs.drop o) ∧ ∀ f ∈ l, o ≤ f.offset ∧ fJ P f.type ((ts.drop (f.offset - o)).take (P.cellsOf f.type))
 | [], o, ho, ht, _, _ => by
  simp only [sw] at ht
  have := Nat.eq_of_beq_eq_true ht
  exact ⟨[], ⟨by simp; omega, by simp⟩, by simp⟩
 | f :: l, o, ho, ht, hl, hn => by
  simp only [sw, Bool.and_eq_true] at ht
  have he := Nat.eq_of_beq_eq_true ht.1
  obtain ⟨hS, x, hx, MG⟩ := hl f (by simp)
  have Kf := hn f (by simp)
  obtain ⟨t1, h1, c1⟩ := ih _ _ x hS hx MG
  obtain ⟨t2, c2, h2⟩ := yJ iK ih l (o + P.cellsOf f.type) (by omega) ht.2 (fun g hg => hl g (by simp [hg])) (fun g hg => hn g (by simp [hg]))
  rw [he] at c1 hx
  have pj : t1.length = P.cellsOf f.type := by rw [c1.1]; simp; omega
  refine ⟨t1 ++ t2, ?_, fun g hg => ?_⟩
  ·have := c1.append c2
   rw [← List.drop_drop, List.take_append_drop] at this
   exact this
  ·rcases List.mem_cons.1 hg with rfl | hg
   ·refine ⟨by omega, ?_⟩
    rw [he, Nat.sub_self, List.drop_zero, ← pj, List.take_left]
    exact h1
   ·obtain ⟨k1, k2⟩ := h2 g hg
    refine ⟨by omega, ?_⟩
    rw [List.drop_append, show t1.drop (g.offset - o) = [] from List.drop_eq_nil_of_le (by omega), List.nil_append, pj, show g.offset - o - P.cellsOf f.type = g.offset - (o + P.cellsOf f.type) by omega]
    exact k2
theorem B0 {n : Nat} : ∀ {l : List Field} {o : Nat}, sw P n o l = true → o ≤ n ∧ ∀ f ∈ l, f.offset + P.cellsOf f.type ≤ n
 | [], o, h => by simp only [sw] at h; exact ⟨Nat.le_of_eq (Nat.eq_of_beq_eq_true h), by simp⟩
 | f :: l, o, h => by
  simp only [sw, Bool.and_eq_true] at h
  have he := Nat.eq_of_beq_eq_true h.1
  obtain ⟨h1, h2⟩ := B0 h.2
  refine ⟨by omega, fun g hg => ?_⟩
  rcases List.mem_cons.1 hg with rfl | hg
  ·omega
  ·exact h2 g hg
theorem Ju {m s n : Nat} {cs : List Value} {e : TypeId}
 (ih : ∀ i, i < n → ∃ ts, fJ P e ts ∧ Cells w ts ((cs.drop (i * s)).take s)) (iK : cs.length = n * s) : ∀ k, k ≤ n →
  ∃ ts, Cells w ts (cs.drop (k * s)) ∧ ∀ i, k ≤ i → i < n → fJ P e ((ts.drop (i * s - k * s)).take s) := by
 intro k hk
 obtain ⟨j, rfl⟩ : ∃ j, n = k + j := ⟨n - k, by omega⟩
 clear hk
 induction j generalizing k with
 | zero => exact ⟨[], ⟨by simp [iK], by simp⟩, fun i h1 h2 => by omega⟩
 | succ j QM =>
  obtain ⟨t1, h1, c1⟩ := ih k (by omega)
  obtain ⟨t2, c2, h2⟩ := QM (k + 1) (fun i hi => ih i (by omega)) (by rw [iK]; congr 1; omega)
  have hle : (k + 1) * s ≤ (k + (j + 1)) * s := Nat.mul_le_mul_right _ (by omega)
  have cI : (k + 1) * s = k * s + s := by rw [Nat.add_mul, Nat.one_mul]
  have pj : t1.length = s := by rw [c1.1]; simp; omega
  refine ⟨t1 ++ t2, ?_, fun i kf tf => ?_⟩
  ·have := c1.append c2
   rw [cI, ← List.drop_drop, List.take_append_drop] at this
   exact this
  ·by_cases e : i = k
   ·subst e
    rw [Nat.sub_self, List.drop_zero, ← pj, List.take_left]
    exact h1
   ·have h3 : (k + 1) * s ≤ i * s := Nat.mul_le_mul_right _ (by omega)
    rw [List.drop_append, show t1.drop (i * s - k * s) = [] from List.drop_eq_nil_of_le (by omega), List.nil_append, pj, show i * s - k * s - s = i * s - (k + 1) * s by omega]
    exact h2 i (by omega) (by omega)
theorem G0 {a : Addr} {v : Value} (h : w.cell? a = some v) : a.spot = none := by
 unfold World.cell? at h
 split at h
 ·split at h
  ·cases h
  ·rename_i hs; simpa using hs
 ·cases h
theorem BY {S : List TypeId} (hS : oO P S = true) : ∀ (jw : Nat) (t : TypeId) (cs : List Value) x, t ∈ S → DataW.trod enc P w 0 sp held jw t cs = some x → nj P t x.1 → ∃ ts, fJ P t ts ∧ Cells w ts cs
 | 0, t, cs, x, _, h, _ => by simp [DataW.trod] at h
 | jw + 1, t, cs, x, ht, h, nA => by
  have ih := BY hS jw
  have hp : qC P S t = true := by
   unfold oO at hS; rw [List.all_eq_true] at hS; exact hS t ht
  unfold qC at hp
  have single : ∀ {c : T} {v : Value}, RT w (fun _ => False) c v → c.one = true → Cells w [c] [v] := by
   intro c v h1 h2
   refine ⟨rfl, fun i c' v' hi hv => ?_⟩
   match i with
   | 0 => cases hi; cases hv; exact ⟨h1, h2⟩
   | i + 1 => simp at hi
  split at hp
  ·rename_i hu
   obtain ⟨b, rfl, _⟩ := DataW.trod_bool hu h
   exact ⟨_, .bool hu b, single (.bool b) rfl⟩
  ·rename_i k hu
   obtain ⟨n, rfl, _, hw⟩ := DataW.trod_int hu h
   exact ⟨_, .int hu n hw, single (.int k n) rfl⟩
  ·rename_i hu
   obtain ⟨s, rfl, rfl, hs⟩ := DataW.trod_string hu h
   exact ⟨_, .str hu s.data.toList (by have := nA s.data.toList.length (by simp [DataW.weights]); exact this), single (.str s) rfl⟩
  ·rename_i e hu
   simp only [Bool.and_eq_true] at hp
   have Rv : e ∈ S := by simpa using hp.1
   have dd := Nat.le_of_ble_eq_true hp.2
   rcases DataW.trod_slice hu h with ⟨rfl, _⟩ | ⟨a, len, cap, na, rest, n, hn, rfl, rfl, _, hl, hm, hlen, tl, _, _⟩
   ·exact ⟨_, .av hu, single .av rfl⟩
   ·obtain rfl : jw = n := by omega
    simp only [nj, DataW.weights, hu, List.length_map, List.mem_cons, List.mem_append] at nA
    have Ns : len * P.bytesOf e ≤ reachBytes := Nat.le_trans (Nat.mul_le_mul_right _ (by omega)) (nA _ (.inl rfl))
    have tc := sV (P := P) (e := e) (l := na.map (·.1)) fun n hn => nA n (.inr (.inl hn))
    have each : ∀ i, ∃ p : List Value × List T, i < len → fJ P e p.2 ∧ Cells w p.2 p.1 ∧ p.1.length = P.cellsOf e ∧ ∀ j, j < P.cellsOf e → w.cell? ((a.add (i * P.cellsOf e)).add j) = p.1[j]? := by
     intro i
     by_cases hi : i < len
     ·have h1 := tl i hi
      obtain ⟨y, hy⟩ : ∃ y, na[i]? = some y := ⟨na[i]'(by omega), List.getElem?_eq_getElem _⟩
      rw [hy, Option.bind_eq_some_iff] at h1
      obtain ⟨vs, h2, h3⟩ := h1
      obtain ⟨ts, k1, k2⟩ := ih e vs y Rv h3 (tc _ (List.mem_map.2 ⟨y, List.mem_of_getElem? hy, rfl⟩))
      obtain ⟨_, h4, h5⟩ := World.cells?_some h2
      exact ⟨(vs, ts), fun _ => ⟨k1, k2, h4, fun j hj => h5 j hj⟩⟩
     ·exact ⟨([], []), fun h => (hi h).elim⟩
    obtain ⟨f, hf⟩ := Classical.skolem.1 each
    have J4 : len ≠ 0 → a.spot = none := fun aw => by
     obtain ⟨_, _, h4, h5⟩ := hf 0 (by omega)
     have h6 := h5 0 (by omega)
     rw [Nat.zero_mul] at h6
     have e0 : ∀ a : Addr, a.add 0 = a := fun a => rfl
     rw [e0, e0, List.getElem?_eq_getElem (by omega)] at h6
     exact G0 h6
    obtain ⟨b, off, OZ⟩ := a
    let l := (List.range len).map fun i => (f i).2
    have wk : l.length = len := by simp [l]
    have iy : ∀ (i : Nat) cs, l[i]? = some cs → i < len ∧ cs = (f i).2 := by
     intro i cs hi
     have χ := ι hi
     rw [wk] at χ
     simp [l, χ] at hi
     exact ⟨χ, hi.symm⟩
    have eE : ∀ (i : Nat) e', (l.map (dV (P.cellsOf e)))[i]? = some e' → i < len ∧ e'.cells = (f i).2 := by
     intro i e' hi
     simp only [List.getElem?_map, Option.map_eq_some_iff] at hi
     obtain ⟨cs, hi, rfl⟩ := hi
     obtain ⟨χ, rfl⟩ := iy i cs hi
     refine ⟨χ, lD ?_ ?_ dd⟩
     ·obtain ⟨_, k2, k3, _⟩ := hf i χ; rw [k2.1, k3]
     ·obtain ⟨_, k2, k3, _⟩ := hf i χ
      rw [List.all_eq_true]
      intro c hc
      obtain ⟨j, hj⟩ := List.getElem?_of_mem hc
      have fy := ι hj
      rw [k2.1] at fy
      exact (k2.2 j c _ hj (List.getElem?_eq_getElem fy)).2
    refine ⟨_, .vec hu l (by rw [wk]; omega) (by rw [wk]; exact Ns) (fun i cs hi => by obtain ⟨χ, rfl⟩ := iy i cs hi; exact (hf i χ).1), single ?_ rfl⟩
    have := RT.vec (w := w) (M := fun _ => False) (P.cellsOf e) (l.map (dV (P.cellsOf e))) b off cap OZ (fun i j => (f i).1.getD j undef) (fun _ _ h => h) (by simp [wk]; exact hl)
     (fun aw => J4 (fun e0 => aw (by have : l = [] := List.eq_nil_of_length_eq_zero (by omega); simp [this])))
     (fun i e' hi => by obtain ⟨χ, kr⟩ := eE i e' hi; obtain ⟨_, k2, k3, _⟩ := hf i χ; rw [kr, k2.1, k3])
     (fun i e' j c hi hj => by
      obtain ⟨χ, kr⟩ := eE i e' hi
      obtain ⟨_, k2, k3, k4⟩ := hf i χ
      rw [kr] at hj
      have fy := ι hj
      rw [k2.1, k3] at fy
      have h6 := k4 j fy
      have ke : OZ = none := J4 (by omega)
      subst ke
      rw [Addr.add_lit, Addr.add_lit] at h6
      have hv : (f i).1[j]? = some ((f i).1[j]'(by omega)) := List.getElem?_eq_getElem _
      refine ⟨by rw [h6, hv]; simp [List.getD_eq_getElem?_getD, hv], (k2.2 j c _ hj hv).2⟩)
     (fun i e' j c hi hj => by
      obtain ⟨χ, kr⟩ := eE i e' hi
      obtain ⟨_, k2, k3, k4⟩ := hf i χ
      rw [kr] at hj
      have fy := ι hj
      rw [k2.1, k3] at fy
      have hv : (f i).1[j]? = some ((f i).1[j]'(by omega)) := List.getElem?_eq_getElem _
      have := (k2.2 j c _ hj hv).1
      simpa [List.getD_eq_getElem?_getD, hv] using this)
    rw [List.length_map, wk] at this
    exact this
  ·rename_i fs hu
   simp only [Bool.and_eq_true, List.all_eq_true] at hp
   obtain ⟨xs, n, hn, rfl, hl, MG, hx⟩ := DataW.trod_struct hu h
   obtain rfl : jw = n := by omega
   simp only [nj, DataW.weights, hu] at nA
   have tc := vZ nA
   obtain ⟨_, hle⟩ := B0 hp.2
   obtain ⟨ts, c1, h1⟩ := yJ (m := jw) hl ih fs.toList 0 (Nat.zero_le _) hp.2 (fun f hf => by
    refine ⟨by simpa using hp.1 f hf, ?_⟩
    obtain ⟨i, hi⟩ := List.getElem?_of_mem hf
    have χ := ι hi
    have := hx i f (by rw [← Array.getElem?_toList]; exact hi)
    rw [this]
    have ji : xs[i]? = some (xs[i]'(by simp at χ; omega)) := List.getElem?_eq_getElem _
    exact ⟨_, ji, tc i _ _ (by simp only [List.getElem?_map, hi, Option.map_some]) (by simp only [List.getElem?_map, ji, Option.map_some])⟩) hle
   rw [List.drop_zero] at c1
   exact ⟨ts, .struct hu ts (by rw [c1.1, hl]) (fun f hf => by have := (h1 f hf).2; rwa [Nat.sub_zero] at this), c1⟩
  ·rename_i n e hu
   simp only [Bool.and_eq_true] at hp
   obtain ⟨xs, m, hn, rfl, hl, MG, hx⟩ := DataW.trod_array hu h
   obtain rfl : jw = m := by omega
   simp only [nj, DataW.weights, hu] at nA
   have tc := sV nA
   have aw := Nat.eq_of_beq_eq_true hp.2
   obtain ⟨ts, c1, h1⟩ := Ju (m := 0) (s := P.cellsOf e) (n := n) (cs := cs) (e := e) (fun i hi => by
    have := hx i hi
    have h2 : xs[i]? = some (xs[i]'(by omega)) := List.getElem?_eq_getElem _
    rw [h2] at this
    exact ih e _ _ (by simpa using hp.1) this (tc _ (List.mem_map.2 ⟨_, List.mem_of_getElem? h2, rfl⟩))) (by rw [hl, aw]) 0 (Nat.zero_le _)
   rw [Nat.zero_mul, List.drop_zero] at c1
   exact ⟨ts, .array hu ts (by rw [c1.1, hl]) (fun i hi => by have := h1 i (Nat.zero_le _) hi; rwa [Nat.zero_mul, Nat.sub_zero] at this), c1⟩
  ·cases hp
def ui (P : Program) (t : TypeId) (cs : List T) : T :=
 match P.underlying t with
 | some (.struct _) => .agg cs
 | some (.array _ _) => .agg cs
 | _ => cs.headD .ju
theorem Cells.agg {ts : List T} {cs : Array Value} (h : Cells w ts cs.toList) : RT w (fun _ => False) (.agg ts) (.agg cs) :=
 .agg ts cs (by rw [h.1]; simp) (fun i c hi => by
  have χ := ι hi
  rw [h.1] at χ
  exact (h.2 i c _ hi (List.getElem?_eq_getElem χ)).2) (fun i c v hi hv => (h.2 i c v hi (by simpa using hv)).1)
theorem IH {S : List TypeId} (hS : oO P S = true) {t : TypeId} (ht : t ∈ S) {r : Reach} {b0 : Nat} {v : Value} {d : DataW H} {ps : List MemPlace} (jL : Value.okWide P w r b0 t v) (hd : DataW.Trod enc P w 0 sp held t v d ps) (nA : nj P t d) :
 ∃ cs, fJ P t cs ∧ RT w (fun _ => False) (ui P t cs) v := by
 obtain ⟨jw, hf⟩ := hd
 obtain ⟨ts, h1, c1⟩ := BY hS jw t _ _ ht hf nA
 refine ⟨ts, h1, ?_⟩
 have hp : qC P S t = true := by
  unfold oO at hS; rw [List.all_eq_true] at hS; exact hS t ht
 unfold qC at hp
 unfold Value.okWide at jL
 unfold ui
 have one : (∀ cs, v ≠ .agg cs) → RT w (fun _ => False) (ts.headD .ju) v := by
  intro aw
  have hv : v.cells = #[v] := by cases v <;> first | rfl | exact (aw _ rfl).elim
  rw [hv] at c1
  have hl : ts.length = 1 := c1.1
  match ts, hl, c1 with
  | [c], _, c1 => exact (c1.2 0 c v rfl rfl).1
 split at hp
 ·rename_i hu; rw [hu] at jL ⊢
  exact one fun cs e => by subst e; simp [Cell.okWide, hu, Cell.ok] at jL
 ·rename_i hu; rw [hu] at jL ⊢
  exact one fun cs e => by subst e; simp [Cell.okWide, hu, Cell.ok] at jL
 ·rename_i hu; rw [hu] at jL ⊢
  exact one fun cs e => by subst e; simp [Cell.okWide, hu, Cell.ok] at jL
 ·rename_i hu; rw [hu] at jL ⊢
  exact one fun cs e => by subst e; simp [Cell.okWide, hu, Cell.ok] at jL
 ·rename_i hu; rw [hu] at jL ⊢
  obtain ⟨cs, rfl, _⟩ := jL
  exact c1.agg
 ·rename_i hu; rw [hu] at jL ⊢
  obtain ⟨cs, rfl, _⟩ := jL
  exact c1.agg
 ·cases hp
theorem Dt {P : Program} {t : TypeId} {ts : List TypeId} {d : DataW H} {r : List (DataW H)} (h : ∀ n ∈ DataW.weightsEach P (t :: ts) (d :: r), n ≤ reachBytes) : nj P t d ∧ ∀ n ∈ DataW.weightsEach P ts r, n ≤ reachBytes := by
 simp only [DataW.weightsEach, List.mem_append] at h
 exact ⟨fun n hn => h n (.inl hn), fun n hn => h n (.inr hn)⟩
end
end Go.Proofs.YtcogcbplmkcojaaGreatDoor
namespace Go.Proofs.YtcogcbplmkcojaaGreatDoor
open Go.ChangeShapes Go.WideShapes Go.ChangeAt Go.RowKit
set_option linter.unusedVariables false
set_option linter.unusedSimpArgs false
section
variable {P : Program} {t e : TypeId} {cs : List T}
theorem fJ.P0 {k : IntKind} (ht : P.underlying t = some (.int k)) (h : fJ P t cs) : ∃ n, cs = [.int k n] ∧ (Lit.int k n).wf = true := by
 cases h with
 | int hu n hw => rw [ht] at hu; cases hu; exact ⟨n, rfl, hw⟩
 | bool hu => rw [ht] at hu; cases hu
 | str hu => rw [ht] at hu; cases hu
 | av hu => rw [ht] at hu; cases hu
 | vec hu => rw [ht] at hu; cases hu
 | struct hu => rw [ht] at hu; cases hu
 | array hu => rw [ht] at hu; cases hu
theorem fJ.Mf (ht : P.underlying t = some (.slice e)) (h : fJ P t cs) :
 cs = [.av] ∨ ∃ l : List (List T), (l.length ≤ maxLen ∧ l.length * P.bytesOf e ≤ reachBytes) ∧ (∀ (i : Nat) c, l[i]? = some c → fJ P e c) ∧ cs = [.vec (P.cellsOf e) (l.map (dV (P.cellsOf e)))] := by
 cases h with
 | av hu => exact .inl rfl
 | vec hu l hl hb h => rw [ht] at hu; cases hu; exact .inr ⟨l, ⟨hl, hb⟩, h, rfl⟩
 | bool hu => rw [ht] at hu; cases hu
 | int hu => rw [ht] at hu; cases hu
 | str hu => rw [ht] at hu; cases hu
 | struct hu => rw [ht] at hu; cases hu
 | array hu => rw [ht] at hu; cases hu
theorem fJ.N_ (ht : P.underlying t = some (.slice e)) (he : P.underlying e = some (.int .u8)) (hc : P.cellsOf e = 1) (kt : P.bytesOf e = 1) (h : fJ P t cs) :
 cs = [.av] ∨ ∃ bs : List UInt8, bs.length ≤ 140737488351232 ∧ cs = [.vec 1 (bs.map fun c => T.int .u8 (c.toNat : Int))] := by
 rcases h.Mf ht with h0 | ⟨l, hl, h0, rfl⟩
 ·exact .inl h0
 refine .inr ?_
 rw [hc]
 have key : ∀ l : List (List T), (∀ (i : Nat) c, l[i]? = some c → fJ P e c) → ∃ bs : List UInt8, l.map (dV 1) = bs.map fun c => T.int .u8 (c.toNat : Int) := by
  intro l
  induction l with
  | nil => intro _; exact ⟨[], rfl⟩
  | cons x r ih =>
   intro h
   obtain ⟨bs, hb⟩ := ih fun i c hi => h (i + 1) c hi
   obtain ⟨n, hx, hw⟩ := (h 0 x rfl).P0 he
   simp only [Lit.wf, Bool.and_eq_true, decide_eq_true_eq] at hw
   have hw : 0 ≤ n ∧ n ≤ 255 := hw
   refine ⟨UInt8.ofNat n.toNat :: bs, ?_⟩
   rw [hx, List.map_cons, List.map_cons, hb]
   congr 1
   show T.int .u8 n = _
   rw [UInt8.toNat_ofNat_of_lt' (by simp [UInt8.size]; omega)]
   congr 1
   omega
 obtain ⟨bs, hb⟩ := key l h0
 rw [hb]
 exact ⟨bs, by have := congrArg List.length hb; have := hl.2; rw [kt] at this; simp [reachBytes] at *; omega, rfl⟩
end
theorem HZ {H : Type} {enc : TypeId × Value → H} {P : Program} {w : World} {base : Nat} {sp : Nat → Bool} {held : Bool} {t : TypeId} {v : Value} {d : DataW H} {ps : List MemPlace} (h : DataW.Trod enc P w base sp held t v d ps) :
 ∀ x ∈ ps, x.block < w.heap.size := by
 obtain ⟨jw, hf⟩ := h
 exact DataW.trod_lt jw t _ _ hf
end Go.Proofs.YtcogcbplmkcojaaGreatDoor
