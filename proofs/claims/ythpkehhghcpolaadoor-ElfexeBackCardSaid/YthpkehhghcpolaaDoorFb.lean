/-
  The ground of the walks of this seat, part Fb.
-/
import Derived.Test.YthpkehhghcpolaaDoorFa
import Derived.Tactics
import Derived.Orders
import Derived.Laws.Externs
import Derived.WalkKit
import Derived.ProofKit
import Derived.OpenShut
import Derived.ShutString
import Derived.Below
import Derived.Carry
import Derived.ChangeArms
import Derived.ChangeBears
import Derived.ChangeSlices
import Derived.Handed
namespace Go.Proofs.YthpkehhghcpolaaDoor
open Go.RowKit
set_option linter.unusedVariables false
set_option linter.unusedSimpArgs false

/-! ### What a function hands back -/

def imp1 (n : Nat) : AV → AV × List Blk
  | .own e s z l => (.sl n 0 0 l.length, [.arr e s z 0 (.ts l)])
  | x => (x, [])

def impL (n : Nat) : List AV → List AV × List Blk
  | [] => ([], [])
  | x :: r => ((imp1 n x).1 :: (impL (n + (imp1 n x).2.length) r).1, (imp1 n x).2 ++ (impL (n + (imp1 n x).2.length) r).2)

def imp2 (n : Nat) : AV → AV × List Blk
  | .agg cs => (.agg (impL n cs).1, (impL n cs).2)
  | x => imp1 n x

def impL2 (n : Nat) : List AV → List AV × List Blk
  | [] => ([], [])
  | x :: r => ((imp2 n x).1 :: (impL2 (n + (imp2 n x).2.length) r).1, (imp2 n x).2 ++ (impL2 (n + (imp2 n x).2.length) r).2)

/-- What is handed back, as a walk takes it: rows of its own for what is new memory. -/
def imp (n : Nat) : AV → AV × List Blk
  | .tup vs => (.tup (impL2 n vs).1, (impL2 n vs).2)
  | x => imp2 n x

def noRef1 : AV → Bool
  | .t _ => true
  | .own _ _ _ _ => true
  | .emp => true
  | .junk => true
  | _ => false

def noRef2 : AV → Bool
  | .agg cs => cs.all noRef1
  | x => noRef1 x

def noRef : AV → Bool
  | .tup vs => vs.all noRef2
  | x => noRef2 x

/-- All blocks that are named have numbers from n on. -/
inductive GE (n : Nat) : AV → Prop
  | t (x) : GE n (.t x)
  | ptr (b g i o) (h : n ≤ b) : GE n (.ptr b g i o)
  | sl (b g i l) (h : n ≤ b) : GE n (.sl b g i l)
  | agg (cs) (h : ∀ (i : Nat) x, cs[i]? = some x → GE n x) : GE n (.agg cs)
  | tup (cs) (h : ∀ (i : Nat) x, cs[i]? = some x → GE n x) : GE n (.tup cs)
  | fn (f a b) (ha : ∀ (i : Nat) x, a[i]? = some x → GE n x) (hb : ∀ (i : Nat) x, b[i]? = some x → GE n x) : GE n (.fn f a b)
  | ifc (t x) (h : GE n x) : GE n (.ifc t x)
  | emp : GE n .emp
  | junk : GE n .junk

theorem GE.le {n m : Nat} (hnm : m ≤ n) {x : AV} (h : GE n x) : GE m x := by
  induction h with
  | t x => exact .t x
  | ptr b g i o h => exact .ptr b g i o (by omega)
  | sl b g i l h => exact .sl b g i l (by omega)
  | agg cs _ ih => exact .agg cs ih
  | tup cs _ ih => exact .tup cs ih
  | fn f a b _ _ iha ihb => exact .fn f a b iha ihb
  | ifc t x _ ih => exact .ifc t x ih
  | emp => exact .emp
  | junk => exact .junk

theorem imp1_ge {n : Nat} {x : AV} (h : noRef1 x = true) : GE n (imp1 n x).1 := by
  cases x <;> simp [noRef1] at h
  · exact .t _
  · exact .sl _ _ _ _ (Nat.le_refl _)
  · exact .emp
  · exact .junk

theorem impL_ge {n : Nat} : ∀ {l : List AV} {n : Nat}, l.all noRef1 = true → ∀ (i : Nat) x, (impL n l).1[i]? = some x → GE n x
  | [], n, _, i, x, hi => by simp [impL] at hi
  | a :: r, n, h, i, x, hi => by
    simp only [List.all_cons, Bool.and_eq_true] at h
    simp only [impL] at hi
    cases i with
    | zero => simp at hi; subst hi; exact imp1_ge h.1
    | succ i => simp at hi; exact (impL_ge (n := n) h.2 i x hi).le (Nat.le_add_right _ _)

theorem imp2_ge {n : Nat} {x : AV} (h : noRef2 x = true) : GE n (imp2 n x).1 := by
  unfold noRef2 at h
  split at h
  · exact .agg _ (impL_ge (n := n) h)
  · rename_i hne
    have : imp2 n x = imp1 n x := by cases x <;> first | rfl | (exact (hne _ rfl).elim)
    rw [this]; exact imp1_ge h

theorem impL2_ge {n : Nat} : ∀ {l : List AV} {n : Nat}, l.all noRef2 = true → ∀ (i : Nat) x, (impL2 n l).1[i]? = some x → GE n x
  | [], n, _, i, x, hi => by simp [impL2] at hi
  | a :: r, n, h, i, x, hi => by
    simp only [List.all_cons, Bool.and_eq_true] at h
    simp only [impL2] at hi
    cases i with
    | zero => simp at hi; subst hi; exact imp2_ge h.1
    | succ i => simp at hi; exact (impL2_ge (n := n) h.2 i x hi).le (Nat.le_add_right _ _)

theorem imp_ge {n : Nat} {x : AV} (h : noRef x = true) : GE n (imp n x).1 := by
  unfold noRef at h
  split at h
  · exact .tup _ (impL2_ge (n := n) h)
  · rename_i hne
    have : imp n x = imp2 n x := by cases x <;> first | rfl | (exact (hne _ rfl).elim)
    rw [this]; exact imp2_ge h

def Blk.isTs : Blk → Bool
  | .arr _ _ _ _ (.ts _) => true
  | _ => false

theorem imp1_arr (n : Nat) (x : AV) : (imp1 n x).2.all Blk.isTs = true := by cases x <;> rfl

theorem impL_arr : ∀ (l : List AV) (n : Nat), (impL n l).2.all Blk.isTs = true
  | [], n => rfl
  | a :: r, n => by simp only [impL, List.all_append, imp1_arr, impL_arr r, Bool.and_self]

theorem imp2_arr (n : Nat) (x : AV) : (imp2 n x).2.all Blk.isTs = true := by
  cases x <;> first | exact impL_arr _ _ | exact imp1_arr _ _

theorem impL2_arr : ∀ (l : List AV) (n : Nat), (impL2 n l).2.all Blk.isTs = true
  | [], n => rfl
  | a :: r, n => by simp only [impL2, List.all_append, imp2_arr, impL2_arr r, Bool.and_self]

theorem imp_arr (n : Nat) (x : AV) : (imp n x).2.all Blk.isTs = true := by
  cases x <;> first | exact impL2_arr _ _ | exact imp2_arr _ _

/-- What is read at blocks from n on is so in another state that has these blocks. -/
theorem RA.shift {w : World} {c1 c2 : Cx} {H1 H2 : AH} {n : Nat} (hM : ∀ cb, ¬ c1.M H1 cb → ¬ c2.M H2 cb) (hH : ∀ b, n ≤ b → H1[b]? = H2[b]?) (hG : ∀ b, n ≤ b → c1.G b = c2.G b)
    {x : AV} {v : Value} (h : RA w c1 H1 x v) (hx : GE n x) : RA w c2 H2 x v := by
  induction h with
  | t x v h => exact .t x v (h.mono fun b _ hb => ⟨rfl, hM b hb⟩)
  | ptr b g i o v blk hb hm hv =>
    cases hx with | ptr _ _ _ _ hn =>
    refine .ptr b g i o v blk (by rw [← hH b hn]; exact hb) ?_ hv
    cases blk with
    | dead => trivial
    | box => rw [← hG b hn]; exact hm
    | iter => rw [← hG b hn]; exact hm
    | arr => rw [← hG b hn]; exact hm
  | sl b g i len v blk hb hm hv =>
    cases hx with | sl _ _ _ _ hn =>
    refine .sl b g i len v blk (by rw [← hH b hn]; exact hb) ?_ hv
    cases blk with
    | dead => trivial
    | box => exact hm
    | iter => exact hm
    | arr => rw [← hG b hn]; exact hm
  | agg cs vs hl h1 _ ih => cases hx with | agg _ hx => exact .agg cs vs hl h1 fun i x v hi hv => ih i x v hi hv (hx i x hi)
  | tup cs vs hl _ ih => cases hx with | tup _ hx => exact .tup cs vs hl fun i x v hi hv => ih i x v hi hv (hx i x hi)
  | fn f a b p q ha hb _ _ iha ihb => cases hx with | fn _ _ _ h1 h2 => exact .fn f a b p q ha hb (fun i x v hi hv => iha i x v hi hv (h1 i x hi)) (fun i x v hi hv => ihb i x v hi hv (h2 i x hi))
  | ifc t x v _ ih => cases hx with | ifc _ _ hx => exact .ifc t x v (ih hx)
  | emp ad => exact .emp ad
  | junk v => exact .junk v

/-! ### Data without memory -/

def flat1 : T → Bool
  | .bool _ => true
  | .int _ _ => true
  | .str _ => true
  | .nilp => true
  | .nils => true
  | .nilf => true
  | .nili => true
  | _ => false

def flatT : T → Bool
  | .agg cs => cs.all flat1
  | x => flat1 x

theorem flat1_rt {w w' : World} {M M' : Nat → Prop} {x : T} {v : Value} (h : RT w M x v) (hf : flat1 x = true) : RT w' M' x v := by
  cases h <;> first | (simp [flat1] at hf; done) | constructor

theorem flatT_rt {w w' : World} {M M' : Nat → Prop} {x : T} {v : Value} (h : RT w M x v) (hf : flatT x = true) : RT w' M' x v := by
  cases h with
  | agg cs vs hl h1 hr =>
    simp only [flatT, List.all_eq_true] at hf
    exact .agg cs vs hl h1 fun i c v hi hv => flat1_rt (hr i c v hi hv) (hf c (List.mem_of_getElem? hi))
  | bool => exact .bool _
  | int => exact .int _ _
  | str => exact .str _
  | nilp => exact .nilp
  | nils => exact .nils
  | nilf => exact .nilf
  | nili => exact .nili
  | iptr => simp [flatT, flat1] at hf
  | vec => simp [flatT, flat1] at hf
  | fn => simp [flatT, flat1] at hf
  | ifc => simp [flatT, flat1] at hf
  | vecd0 => simp [flatT, flat1] at hf
  | vecd => simp [flatT, flat1] at hf

theorem flatT_cells {x : T} (hf : flatT x = true) : ∀ (j : Nat) y, x.cells[j]? = some y → flat1 y = true := by
  intro j y hj
  cases x with
  | agg cs => simp only [flatT, List.all_eq_true] at hf; exact hf y (List.mem_of_getElem? hj)
  | _ => cases j <;> simp [T.cells] at hj <;> subst hj <;> exact hf

def Flat1 : AV → Prop
  | .t x => flatT x = true
  | .own _ _ _ l => ∀ x ∈ l, flatT x = true
  | .junk => True
  | _ => False

def FlatL : List AV → Prop
  | [] => True
  | x :: r => Flat1 x ∧ FlatL r

def Flat2 : AV → Prop
  | .agg cs => FlatL cs
  | x => Flat1 x

def FlatL2 : List AV → Prop
  | [] => True
  | x :: r => Flat2 x ∧ FlatL2 r

/-- What is handed back leads to no memory but to new rows of data without memory. -/
def Flat : AV → Prop
  | .tup vs => FlatL2 vs
  | x => Flat2 x

/-! ### Contracts -/

def Enters (P : Program) (f : FuncId) : Prop := ∃ fn, P.funcs[f]? = some fn ∧ fn.body.isSome = true ∧ (fn.name == "runtime.NumGoroutine") = false

/-- What comes of a call: of a function's body, or of one that the model itself knows. -/
def Gets (P : Program) (f : FuncId) (vs : Array Value) (w : World) (Q : Ending → World → Prop) : Prop :=
  (Enters P f ∧ Calls P f vs w Q) ∨ ∃ v w', (callFunc f vs).run P w = .ok (.value v) w' ∧ Q (.returned v) w'

theorem Gets.mono {P : Program} {f : FuncId} {vs : Array Value} {w : World} {Q Q' : Ending → World → Prop} (h : Gets P f vs w Q) (hq : ∀ e w', Q e w' → Q' e w') : Gets P f vs w Q' :=
  h.imp (fun h => ⟨h.1, h.2.mono hq⟩) fun ⟨v, w', h1, h2⟩ => ⟨v, w', h1, hq _ _ h2⟩

def Runs (P : Program) (f : FuncId) (ts : List T) (r : AV) : Prop :=
  noRef r = true ∧ ∀ (n : Nat) (F : Nat → Prop) (w : World) (vs : Array Value), (∀ cb, F cb → cb < w.heap.size) → vs.size = ts.length →
    (∀ (i : Nat) t v, ts[i]? = some t → vs[i]? = some v → RT w F t v) →
    Gets P f vs w fun e w' => ∃ v G, e = .returned v ∧ Below w.heap.size w w' ∧ (∀ b cb, G b = some cb → n ≤ b) ∧
      RA w' ⟨F, G⟩ (List.replicate n .dead ++ (imp n r).2) (imp n r).1 v ∧ HS w' ⟨F, G⟩ (List.replicate n .dead ++ (imp n r).2) w.heap.size

def CallS (P : Program) : CallP := fun f args H Q =>
  ∀ (B : Nat) (c : Cx) (w : World) (vs : Array Value), HS w c H B → vs.size = args.length → (∀ (i : Nat) a v, args[i]? = some a → vs[i]? = some v → RA w c H a v) →
    Gets P f vs w fun e w' => ∃ v c' r H', e = .returned v ∧ RA w' c' H' r v ∧ HS w' c' H' B ∧ Ev w c H w' c' H' ∧ Below B w w' ∧ Q r H'

theorem CallS.mono {P : Program} {f : FuncId} {args : List AV} {H : AH} {Q Q' : AV → AH → Prop} (h : CallS P f args H Q) (hq : ∀ r H', Q r H' → Q' r H') : CallS P f args H Q' :=
  fun B c w vs a b d => (h B c w vs a b d).mono fun e w' ⟨v, c', r, H', h1, h2, h3, h4, h5, h6⟩ => ⟨v, c', r, H', h1, h2, h3, h4, h5, hq _ _ h6⟩

theorem get_dead {n : Nat} {Hb : List Blk} {b : Nat} {H : AH} (hn : H.length = n) (h : n ≤ b) : (List.replicate n Blk.dead ++ Hb)[b]? = (H ++ Hb)[b]? := by
  rw [List.getElem?_append_right (by simpa using h), List.getElem?_append_right (by omega)]
  simp [hn]

theorem dead_lt {n : Nat} {Hb : List Blk} {b : Nat} {blk : Blk} (h : b < n) (hb : (List.replicate n Blk.dead ++ Hb)[b]? = some blk) : blk = .dead := by
  rw [List.getElem?_append_left (by simpa using h)] at hb
  simp [h] at hb
  exact hb.symm

/-- New rows of a call, laid behind those of the walk. -/
theorem join {w w' : World} {c : Cx} {H Hb : AH} {B : Nat} {F : Nat → Prop} {G : Nat → Option Nat} (hs : HS w c H B) (hbel : Below w.heap.size w w') (hG : ∀ b cb, G b = some cb → H.length ≤ b)
    (hs' : HS w' ⟨F, G⟩ (List.replicate H.length .dead ++ Hb) w.heap.size) (harr : Hb.all Blk.isTs = true)
    (hrt : ∀ (b e s : Nat) (z : Bool) (g : Nat) (l : List T) (i : Nat) (x : T) (j : Nat) (y : T) (v : Value), Hb[b]? = some (Blk.arr e s z g (.ts l)) → l[i]? = some x → x.cells[j]? = some y →
      RT w' ((Cx.mk F G).M (List.replicate H.length .dead ++ Hb)) y v → RT w' ((Cx.mk c.F fun b => if b < H.length then c.G b else G b).M (H ++ Hb)) y v) :
    Ev w c H w' ⟨c.F, fun b => if b < H.length then c.G b else G b⟩ (H ++ Hb) ∧ HS w' ⟨c.F, fun b => if b < H.length then c.G b else G b⟩ (H ++ Hb) B := by
  have ev : Ev w c H w' ⟨c.F, fun b => if b < H.length then c.G b else G b⟩ (H ++ Hb) := by
    refine ⟨rfl, hbel.size, fun b blk hb => ⟨blk, by rw [List.getElem?_append_left (lt_of_getElem? hb)]; exact hb, ?_⟩, fun cb hm => ?_, fun cb hlt _ => hbel.block cb hlt,
      fun b bk hb _ hg => by simp only [if_pos (lt_of_getElem? hb)]; exact hg⟩
    · have hlt := lt_of_getElem? hb
      cases blk with
      | dead => trivial
      | box cs => exact ⟨rfl, fun cb hc => by simp only [if_pos hlt]; exact hc⟩
      | iter s p => exact ⟨rfl, fun cb hc => by simp only [if_pos hlt]; exact hc⟩
      | arr e s z g l =>
        refine ⟨rfl, rfl, rfl, Nat.le_refl _, Nat.le_refl _, fun _ => ⟨rfl, fun cb hc => ⟨by simp only [if_pos hlt]; exact hc, ?_⟩⟩⟩
        unfold rowSize
        rw [hbel.block cb (hs.base b cb hc).2]
    · rcases hm with ⟨b, blk, hb, hl, hg⟩
      · simp only at hg
        split at hg
        · rename_i hlt
          rw [List.getElem?_append_left hlt] at hb
          exact .inl ⟨b, blk, hb, hl, hg⟩
        · exact .inr (hs'.base b cb hg).1
  have hB : B ≤ w.heap.size := hs.hB
  refine ⟨ev, hs.keep ev (fun b b' cb h h' => ?_) (fun b cb h => ?_) (fun b cb h => ?_) (fun b cb cs hb hg => ?_) (fun b cb e s z g l hb hg => ?_) (fun b cb s p hb hg => ?_) (fun b cb h => by
    simp only at h
    split at h
    · exact .inl ⟨b, h⟩
    · exact .inr (hs'.base b cb h).1)⟩
  · simp only at h h'
    split at h <;> split at h'
    · exact hs.inj b b' cb h h'
    · have := (hs.base b cb h).2; have := (hs'.base b' cb h').1; omega
    · have := (hs.base b' cb h').2; have := (hs'.base b cb h).1; omega
    · exact hs'.inj b b' cb h h'
  · simp only at h
    split at h
    · have := hs.base b cb h; exact ⟨this.1, by have := hbel.size; omega⟩
    · have := hs'.base b cb h; exact ⟨by omega, this.2⟩
  · simp only at h
    split at h
    · simp; omega
    · have := hs'.dom b cb h; simp at this ⊢; omega
  · simp only at hg
    split at hg
    · rename_i hlt
      rw [List.getElem?_append_left hlt] at hb
      exact .inl ⟨hb, hg, hbel.block cb (hs.base b cb hg).2⟩
    · rename_i hge
      rw [List.getElem?_append_right (by omega)] at hb
      rw [List.all_eq_true] at harr
      have := harr _ (List.mem_of_getElem? hb)
      simp [Blk.isTs] at this
  · simp only at hg
    split at hg
    · rename_i hlt
      rw [List.getElem?_append_left hlt] at hb
      exact .inl ⟨hb, hg, hbel.block cb (hs.base b cb hg).2⟩
    · rename_i hge
      have hb' := hb
      rw [List.getElem?_append_right (by omega)] at hb'
      rw [← get_dead (H := H) rfl (by omega)] at hb
      obtain ⟨arr, cap, h1, h2, h3, h4, h5⟩ := hs'.arr b cb e s z g l hb hg
      rw [List.all_eq_true] at harr
      have hts := harr _ (List.mem_of_getElem? hb')
      cases l with
      | vs l => simp [Blk.isTs] at hts
      | ts l =>
        refine .inr ⟨arr, cap, h1, h2, h3, h4, Rowed.ts.2 fun i x hi => ⟨(Rowed.ts.1 h5 i x hi).1, fun j y hj => ?_⟩⟩
        obtain ⟨v, k1, k2, k3, k4⟩ := (Rowed.ts.1 h5 i x hi).2 j y hj
        exact ⟨v, k1, k2, hrt _ e s z g l i x j y v hb' hi hj k3, k4⟩
  · simp only at hg
    split at hg
    · rename_i hlt
      rw [List.getElem?_append_left hlt] at hb
      exact .inl ⟨hb, hg, hbel.block cb (hs.base b cb hg).2⟩
    · rename_i hge
      rw [List.getElem?_append_right (by omega)] at hb
      rw [List.all_eq_true] at harr
      have := harr _ (List.mem_of_getElem? hb)
      simp [Blk.isTs] at this

theorem join_M {c : Cx} {H Hb : AH} {F : Nat → Prop} {G : Nat → Option Nat} {cb : Nat} (hF : ∀ cb, c.M H cb → F cb) (h : ¬ (Cx.mk F G).M (List.replicate H.length .dead ++ Hb) cb) :
    ¬ (Cx.mk c.F fun b => if b < H.length then c.G b else G b).M (H ++ Hb) cb := by
  rintro (hf | ⟨b, blk, hb, hl, hg⟩)
  · exact h (.inl (hF cb (.inl hf)))
  · simp only at hg
    split at hg
    · rename_i hlt
      rw [List.getElem?_append_left hlt] at hb
      exact h (.inl (hF cb (.inr ⟨b, blk, hb, hl, hg⟩)))
    · exact h (.inr ⟨b, blk, by rw [get_dead (H := H) rfl (by omega)]; exact hb, hl, hg⟩)

theorem M_lt {w c H B} (hs : HS w c H B) {cb : Nat} (h : c.M H cb) : cb < w.heap.size := by
  rcases h with hf | ⟨b, blk, _, _, hg⟩
  · exact (hs.fb cb hf).1
  · exact (hs.base b cb hg).2

/-- A call with plain data. -/
theorem CallS.pure {P : Program} {f : FuncId} {args : List AV} {ts : List T} {r : AV} {H : AH} {Q : AV → AH → Prop} (h : Runs P f ts r) (ha : toTs args = some ts) (k : Q (imp H.length r).1 (H ++ (imp H.length r).2)) :
    CallS P f args H Q := by
  intro B c w vs hs hl hr
  have hts := toTs_spec ha
  refine (h.2 H.length (c.M H) w vs (fun cb hcb => M_lt hs hcb) (by rw [hl, hts]; simp) (fun i t v hi hv => ?_)).mono fun e w' ⟨v, G, he, hbel, hG, hra, hs'⟩ => ?_
  · have := hr i (.t t) v (by rw [hts]; simp [hi]) hv
    cases this with | t _ _ h => exact h
  · obtain ⟨ev, hs2⟩ := join (Hb := (imp H.length r).2) hs hbel hG hs' (imp_arr _ _) (fun b e s z g l i x j y v hb hi hj hrt => hrt.mono fun cb _ hcb => ⟨rfl, join_M (fun _ h => h) hcb⟩)
    refine ⟨v, _, _, _, he, ?_, hs2, ev, ?_, k⟩
    · exact hra.shift (n := H.length) (fun cb hcb => join_M (fun _ h => h) hcb) (fun b hb => get_dead rfl hb) (fun b hb => by simp only [if_neg (Nat.not_lt.2 hb)]) (imp_ge h.1)
    · exact hbel.mono hs.hB

end Go.Proofs.YthpkehhghcpolaaDoor

namespace Go.Proofs.YthpkehhghcpolaaDoor
open Go.RowKit
set_option linter.unusedVariables false
set_option linter.unusedSimpArgs false

theorem RA.rt {w : World} {c : Cx} {H : AH} {x : T} {v : Value} (h : RA w c H (.t x) v) : RT w (c.M H) x v := by cases h with | t _ _ h => exact h

section
variable {P : Program} {tab : Tab}

theorem opd_ok {w : World} {c : Cx} {H : AH} {env : List (Nat × AV)} {a : Act} (he : ∀ t, RA w c H (lk env t) (a.tmps.getD t undef)) (x : Operand) : RA w c H (opd env x) (a.eval x) := by
  cases x with
  | tmp t => exact he t
  | const v => exact ofVal_ok v
  | global g => exact .junk _
  | func f => exact .t _ _ (.fn (.func f) [] [] #[] #[] rfl rfl (by simp) (by simp))

theorem opds_ok {w : World} {c : Cx} {H : AH} {env : List (Nat × AV)} {a : Act} (he : ∀ t, RA w c H (lk env t) (a.tmps.getD t undef)) (l : List Operand) :
    ∀ (i : Nat) x v, (l.map (opd env))[i]? = some x → (l.map a.eval)[i]? = some v → RA w c H x v := by
  intro i x v hi hv
  simp only [List.getElem?_map, Option.map_eq_some_iff] at hi hv
  obtain ⟨o, ho, rfl⟩ := hi
  obtain ⟨o', ho', rfl⟩ := hv
  rw [ho] at ho'; cases ho'
  exact opd_ok he o

theorem parts_ok {w : World} {c : Cx} {H : AH} {env : List (Nat × AV)} {a : Act} (he : ∀ t, RA w c H (lk env t) (a.tmps.getD t undef)) (l : List (Nat × Operand)) :
    RParts w c H (l.map fun p => (p.1, opd env p.2)) (l.map fun p => (p.1, a.eval p.2)) := by
  induction l with
  | nil => exact .nil
  | cons p r ih => exact .cons _ _ _ _ _ (opd_ok he p.2) ih

/-- What an operation must do, seen from its end. -/
def Then (P : Program) (o : Oper) (a : Act) (w : World) (c : Cx) (H : AH) (B : Nat) (K : AV → AH → Prop) (next : Act → World → Prop) : Prop :=
  ∀ v val w' c' H', RA w' c' H' v val → HS w' c' H' B → Ev w c H w' c' H' → Below B w w' → K v H' → next (a.put o.dst val) w'

theorem wp_value {o : Oper} {a : Act} {w : World} {c : Cx} {H : AH} {B : Nat} {K : AV → AH → Prop} {next : Act → World → Prop} {Q : Exit → Act → World → Prop} (hK : Then P o a w c H B K next) {m : Sem Value}
    (hrun : execOp a.eval o = (do pure (.value (← m)))) (h : MOut P m w c H B K) : o.wp P a w next Q := by
  obtain ⟨v, val, w', c', H', h1, h2, h3, h4, h5, h6⟩ := h
  unfold Oper.wp
  rw [hrun]
  simp only [Sem.run_bind, h1, Result.andThen_ok, Sem.run_pure, Oper.upon_value]
  exact hK v val w' c' H' h2 h3 h4 h5 h6

theorem wp_here {o : Oper} {a : Act} {w : World} {c : Cx} {H : AH} {B : Nat} {K : AV → AH → Prop} {next : Act → World → Prop} {Q : Exit → Act → World → Prop} (hK : Then P o a w c H B K next) (hs : HS w c H B) {m : Sem Value}
    (hrun : execOp a.eval o = (do pure (.value (← m)))) {x : AV} {val : Value} (h1 : m.run P w = .ok val w) (h2 : RA w c H x val) (h3 : K x H) : o.wp P a w next Q :=
  wp_value hK hrun (.here hs h1 h2 h3)

theorem xbin_ok (hT : TabOK P tab) {op : BinOp} {ty : TypeId} {w c H x y u v} {K : T → Prop} {xo yo : Operand} (h : xbin tab op ty H x y (isConst yo) K) (hx : RA w c H x u) (hy : RA w c H y v) :
    ∃ z val, (do eqGuard op ty xo yo u v; binOp op ty u v).run P w = .ok val w ∧ (∀ w M, RT w M z val) ∧ K z := by
  unfold xbin at h
  split at h
  · obtain rfl := hx.int
    obtain rfl := hy.int
    obtain ⟨z, val, h1, h2, h3⟩ := xint_ok (P := P) (w := w) h ty
    exact ⟨z, val, by rw [eqGuard_at_int]; simpa using h1, h2, h3⟩
  · obtain ⟨s, rfl, hs⟩ := hx.str
    obtain ⟨s', rfl, hs'⟩ := hy.str
    obtain ⟨z, val, h1, h2, h3⟩ := xstr_ok (P := P) (w := w) h ty s s' hs hs'
    exact ⟨z, val, by rw [eqGuard_at_string]; simpa using h1, h2, h3⟩
  · split at h
    · obtain ⟨p, h1, h2, h3, h4⟩ := xeq_ok (P := P) hT h hx.toAgg hy.toAgg xo yo rfl
      exact ⟨_, _, by simp only [Sem.run_bind, h1, Result.andThen_ok, h2], fun _ _ => .bool _, h4⟩
    · obtain ⟨p, h1, h2, h3, h4⟩ := xeq_ok (P := P) hT h hx.toAgg hy.toAgg xo yo rfl
      exact ⟨_, _, by simp only [Sem.run_bind, h1, Result.andThen_ok, h3], fun _ _ => .bool _, h4⟩
    · exact h.elim

theorem run_callFunc {f : FuncId} (h : Enters P f) (args : Array Value) (w : World) : (callFunc f args).run P w = .ok (.enter f args) w := by
  obtain ⟨fn, h1, h2, h3⟩ := h
  simp only [callFunc, Sem.run_bind, run_program, Result.andThen_ok, h1]
  have hb : fn.body.isNone = false := by cases hb : fn.body <;> simp [hb] at h2 ⊢
  simp [h3, hb]

/-- A call of a function. -/
theorem wp_enter {o : Oper} {a : Act} {w : World} {c : Cx} {H : AH} {B : Nat} {K : AV → AH → Prop} {next : Act → World → Prop} {Q : Exit → Act → World → Prop} (hK : Then P o a w c H B K next) (hs : HS w c H B)
    {f : FuncId} {vs : Array Value} (hrun : (execOp a.eval o).run P w = (callFunc f vs).run P w) {args : List AV} (h : CallS P f args H K) (hl : vs.size = args.length)
    (hr : ∀ (i : Nat) x v, args[i]? = some x → vs[i]? = some v → RA w c H x v) : o.wp P a w next Q := by
  unfold Oper.wp
  rw [hrun]
  rcases h B c w vs hs hl hr with ⟨hen, h⟩ | ⟨v, w', h, v', c', r, H', he, h1, h2, h3, h4, h5⟩
  · rw [run_callFunc hen, Oper.upon_enter]
    refine h.mono fun e w' ⟨v, c', r, H', he, h1, h2, h3, h4, h5⟩ => ?_
    subst he
    exact hK r v w' c' H' h1 h2 h3 h4 h5
  · rw [h, Oper.upon_value]
    cases he
    exact hK r v w' c' H' h1 h2 h3 h4 h5

theorem join_args {w c H} {A1 A2 A3 : List AV} {v1 v2 v3 : Array Value} (l1 : A1.length = v1.size) (l2 : A2.length = v2.size) (l3 : A3.length = v3.size)
    (h1 : ∀ (i : Nat) x v, A1[i]? = some x → v1[i]? = some v → RA w c H x v) (h2 : ∀ (i : Nat) x v, A2[i]? = some x → v2[i]? = some v → RA w c H x v) (h3 : ∀ (i : Nat) x v, A3[i]? = some x → v3[i]? = some v → RA w c H x v) :
    (v1 ++ v2 ++ v3).size = (A1 ++ (A2 ++ A3)).length ∧ ∀ (i : Nat) x v, (A1 ++ (A2 ++ A3))[i]? = some x → (v1 ++ v2 ++ v3)[i]? = some v → RA w c H x v := by
  refine ⟨by simp; omega, fun i x v hi hv => ?_⟩
  by_cases a1 : i < A1.length
  · rw [List.getElem?_append_left a1] at hi
    rw [Array.getElem?_append_left (by simp; omega), Array.getElem?_append_left (by omega)] at hv
    exact h1 i x v hi hv
  · rw [List.getElem?_append_right (by omega)] at hi
    by_cases a2 : i - A1.length < A2.length
    · rw [List.getElem?_append_left a2] at hi
      rw [Array.getElem?_append_left (by simp; omega), Array.getElem?_append_right (by omega)] at hv
      exact h2 _ x v hi (by rw [← l1] at hv; exact hv)
    · rw [List.getElem?_append_right (by omega)] at hi
      rw [Array.getElem?_append_right (by simp; omega)] at hv
      refine h3 _ x v hi ?_
      rw [Array.size_append, ← l1, ← l2] at hv
      rw [show i - A1.length - A2.length = i - (A1.length + A2.length) by omega]
      exact hv

theorem map_t {w c H} {l : List T} {vs : Array Value} (hr : ∀ (i : Nat) x v, l[i]? = some x → vs[i]? = some v → RT w (c.M H) x v) : ∀ (i : Nat) x v, (l.map AV.t)[i]? = some x → vs[i]? = some v → RA w c H x v := by
  intro i x v hi hv
  simp only [List.getElem?_map, Option.map_eq_some_iff] at hi
  obtain ⟨y, hy, rfl⟩ := hi
  exact .t _ _ (hr i y v hy hv)

theorem xcall_ok (hT : TabOK P tab) {o : Oper} {cl : Call} (ho : o.op = .call cl) {env : List (Nat × AV)} {H : AH} {K : AV → AH → Prop} (h : xcall tab (CallS P) cl o.type env H K) {a : Act} {w : World} {c : Cx} {B : Nat} (hs : HS w c H B)
    (he : ∀ t, RA w c H (lk env t) (a.tmps.getD t undef)) {next : Act → World → Prop} {Q : Exit → Act → World → Prop} (hK : Then P o a w c H B K next) : o.wp P a w next Q := by
  have hx : execOp a.eval o = (do let d ← resolve a.eval cl o.type; invoke d.target d.args) := by unfold execOp; rw [ho]
  unfold xcall at h
  split at h
  · rename_i b hcb
    obtain ⟨cs, hx2⟩ : ∃ cs, execOp a.eval o = builtin b cl.argTypes o.type cs (cl.args.map a.eval) := by
      rw [hx]; simp only [resolve, hcb, pure_bind, invoke]
      exact ⟨_, rfl⟩
    split at h
    · rename_i t x h1 h2
      have e1 : cl.argTypes = #[t] := by rw [← Array.toArray_toList (xs := cl.argTypes), h1]
      have e2 : cl.args.map a.eval = #[a.eval x] := by rw [← Array.toArray_toList (xs := cl.args), h2]; simp
      rw [e1, e2] at hx2
      obtain ⟨y, val, r, ra, k⟩ := xlen_ok (P := P) hT h (opd_ok he x) o.type
      exact wp_here hK hs (m := Builtin.len_ #[t] o.type #[a.eval x]) (by rw [hx2]; rfl) r ra k
    · rename_i t u x y h1 h2
      have e1 : cl.argTypes = #[t, u] := by rw [← Array.toArray_toList (xs := cl.argTypes), h1]
      have e2 : cl.args.map a.eval = #[a.eval x, a.eval y] := by rw [← Array.toArray_toList (xs := cl.args), h2]; simp
      rw [e1, e2] at hx2
      rw [opt_iff] at h
      obtain ⟨z, hz, h⟩ := h
      split at h
      · rename_i hc
        have hu : ∃ k, P.underlying u = some (.int k) := by
          have hd := (hT u z hz).d
          cases hzd : z.d <;> rw [hzd] at hc hd <;> first | exact ⟨_, hd⟩ | (simp [isIntD] at hc)
        obtain ⟨k, hu⟩ := hu
        exact wp_value hK (m := Builtin.append_ #[t, u] o.type #[a.eval x, a.eval y]) (by rw [hx2]; rfl) (xappendZ_ok hT hs (opd_ok he x) (opd_ok he y) hu h o.type)
      · rename_i hc
        have hu : ∃ d, P.underlying u = some d ∧ ∀ k, d ≠ .int k := ⟨z.d, (hT u z hz).d, fun k hk => by rw [hk] at hc; simp [isIntD] at hc⟩
        exact wp_value hK (m := Builtin.append_ #[t, u] o.type #[a.eval x, a.eval y]) (by rw [hx2]; rfl) (xappend_ok hT hs (opd_ok he x) (opd_ok he y) hu h o.type)
    · rename_i t x h1 h2
      have e1 : cl.argTypes = #[t] := by rw [← Array.toArray_toList (xs := cl.argTypes), h1]
      have e2 : cl.args.map a.eval = #[a.eval x] := by rw [← Array.toArray_toList (xs := cl.args), h2]; simp
      rw [e1, e2] at hx2
      obtain ⟨y, val, r, ra, k⟩ := xcap_ok (P := P) hT hs h (opd_ok he x) o.type
      exact wp_here hK hs (m := Builtin.cap_ #[t] o.type #[a.eval x]) (by rw [hx2]; rfl) r ra k
    · rename_i t u x y h1 h2
      have e1 : cl.argTypes = #[t, u] := by rw [← Array.toArray_toList (xs := cl.argTypes), h1]
      have e2 : cl.args.map a.eval = #[a.eval x, a.eval y] := by rw [← Array.toArray_toList (xs := cl.args), h2]; simp
      rw [e1, e2] at hx2
      exact wp_value hK (m := Builtin.copy_ #[t, u] o.type #[a.eval x, a.eval y]) (by rw [hx2]; rfl) (xcopy_ok hT hs (opd_ok he x) (opd_ok he y) h o.type)
    · rename_i x y h2
      have e2 : cl.args.map a.eval = #[a.eval x, a.eval y] := by rw [← Array.toArray_toList (xs := cl.args), h2]; simp
      rw [e2] at hx2
      obtain ⟨z, val, r, ra, k⟩ := xminmax_ok (P := P) h (opd_ok he x) (opd_ok he y) cl.argTypes o.type
      exact wp_here hK hs (m := Builtin.min_ cl.argTypes o.type #[a.eval x, a.eval y]) (by rw [hx2]; rfl) r ra k
    · rename_i x y h2
      have e2 : cl.args.map a.eval = #[a.eval x, a.eval y] := by rw [← Array.toArray_toList (xs := cl.args), h2]; simp
      rw [e2] at hx2
      obtain ⟨z, val, r, ra, k⟩ := xminmax_ok (P := P) h (opd_ok he x) (opd_ok he y) cl.argTypes o.type
      exact wp_here hK hs (m := Builtin.max_ cl.argTypes o.type #[a.eval x, a.eval y]) (by rw [hx2]; rfl) r ra k
    · exact h.elim
  · rename_i f hcf
    have hargs := opds_ok he cl.args.toList
    have hargs' : ∀ (i : Nat) x v, (cl.args.toList.map (opd env))[i]? = some x → (cl.args.map a.eval)[i]? = some v → RA w c H x v := fun i x v hi hv => hargs i x v hi (by
      rw [← Array.getElem?_toList, Array.toList_map] at hv; exact hv)
    have hf := opd_ok he f
    have run : ∀ (g : FuncId) (first captured : Array Value), a.eval f = .func (.func g) first captured →
        (execOp a.eval o).run P w = (callFunc g (first ++ cl.args.map a.eval ++ captured)).run P w := by
      intro g first captured hfe
      rw [hx]
      simp only [resolve, hcf, hfe, Deferred.ofValue, pure_bind, invoke]
    split at h
    · rename_i g first captured hfv
      rw [hfv] at hf
      generalize hfe : a.eval f = fv at hf
      cases hf with | t _ _ hf => cases hf with | fn _ _ _ p q ha hb hra hrb =>
      obtain ⟨l, r⟩ := join_args (A1 := first.map .t) (A2 := cl.args.toList.map (opd env)) (A3 := captured.map .t) (v1 := p) (v2 := cl.args.map a.eval) (v3 := q) (by simpa using ha) (by simp) (by simpa using hb) (map_t hra) hargs' (map_t hrb)
      exact wp_enter hK hs (run g p q hfe) h l r
    · rename_i g first captured hfv
      rw [hfv] at hf
      generalize hfe : a.eval f = fv at hf
      cases hf with | fn _ _ _ p q ha hb hra hrb =>
      obtain ⟨l, r⟩ := join_args (A1 := first) (A2 := cl.args.toList.map (opd env)) (A3 := captured) (v1 := p) (v2 := cl.args.map a.eval) (v3 := q) ha (by simp) hb hra hargs' hrb
      exact wp_enter hK hs (run g p q hfe) h l r
    · exact h.elim
  · exact h.elim

theorem ro_map {w c H} {env : List (Nat × AV)} {a : Act} (he : ∀ t, RA w c H (lk env t) (a.tmps.getD t undef)) (x : Option Operand) : RO w c H (x.map (opd env)) (x.map a.eval) := by
  cases x with
  | none => exact .no
  | some x => exact .yes _ _ (opd_ok he x)

/-- One operation. -/
theorem xop_ok (hT : TabOK P tab) {o : Oper} {env : List (Nat × AV)} {H : AH} {K : AV → AH → Prop} (h : xop tab (CallS P) o env H K) {a : Act} {w : World} {c : Cx} {B : Nat} (hs : HS w c H B)
    (he : ∀ t, RA w c H (lk env t) (a.tmps.getD t undef)) {next : Act → World → Prop} {Q : Exit → Act → World → Prop} (hK : Then P o a w c H B K next) : o.wp P a w next Q := by
  unfold xop at h
  split at h
  · rename_i x ho
    exact wp_here hK hs (m := pure (a.eval x)) (by unfold execOp; rw [ho]; rfl) rfl (opd_ok he x) h
  · rename_i x ho
    exact wp_value hK (m := pure (a.eval x)) (by unfold execOp; rw [ho]; rfl) (xassign_ok hs h (opd_ok he x))
  · rename_i x y z ho
    obtain ⟨b, v, val, e1, e2, ra, k⟩ := xpick_ok h (opd_ok he x) (opd_ok he y) (opd_ok he z) (.inr (.inr trivial))
    refine wp_here hK hs (m := pure val) ?_ rfl ra k
    unfold execOp; rw [ho]
    simp only [e1, asBool, pure_bind, e2]
  · rename_i e ho
    rw [opt_iff] at h
    obtain ⟨y, hy, h⟩ := h
    rw [opt_iff] at h
    obtain ⟨zs, hz, h⟩ := h
    rw [ck_iff] at h
    obtain ⟨hc, h⟩ := h
    simp only [Bool.and_eq_true] at hc
    split at h
    · exact wp_value hK (m := Instr.alloc e true (.tuple #[])) (by unfold execOp; rw [ho]) (xallocArr_ok hT hy hz hc.1 (Nat.eq_of_beq_eq_true hc.2) hs h _)
    · exact wp_value hK (m := Instr.alloc e true (.tuple #[])) (by unfold execOp; rw [ho]) (xalloc_ok hT hy hz hc.1 hs h _)
  · rename_i e x ho
    rw [ck_iff] at h
    exact wp_value hK (m := Instr.box e (a.eval x)) (by unfold execOp; rw [ho]) (xbox_ok hs e (opd_ok he x) h.1 h.2)
  · rename_i t parts ho
    obtain ⟨x, val, r, ra, k⟩ := xbuild_ok (P := P) hT (vs := parts.map fun (i, x) => (i, a.eval x)) (by rw [Array.toList_map]; exact parts_ok he parts.toList) h
    exact wp_here hK hs (m := Instr.build t (parts.map fun (i, x) => (i, a.eval x))) (by unfold execOp; rw [ho]) r ra k
  · rename_i t n parts ho
    exact wp_value hK (m := Instr.buildSlice t n (parts.map fun (i, x) => (i, a.eval x))) (by unfold execOp; rw [ho]) (xbuildSlice_ok hT hs (by rw [Array.toList_map]; exact parts_ok he parts.toList) h)
  · rename_i t x ho
    obtain ⟨y, val, r, ra, k⟩ := xload_ok (P := P) hT hs h (opd_ok he x)
    exact wp_here hK hs (m := Instr.loadAt t (a.eval x)) (by unfold execOp; rw [ho]) r ra k
  · rename_i t x y ho
    obtain ⟨w', H', r, h1, h2, h3, k⟩ := xstore_ok (P := P) hT hs h (opd_ok he x) (opd_ok he y)
    have hx : execOp a.eval o = (do Instr.storeAt t (a.eval x) (a.eval y); pure .skip) := by unfold execOp; rw [ho]
    unfold Oper.wp
    rw [hx]
    simp only [Sem.run_bind, r, Result.andThen_ok, Sem.run_pure, Oper.upon_skip]
    exact hK _ _ w' c H' (.tup [] #[] rfl (by simp)) h1 h2 h3 k
  · rename_i x ho
    obtain ⟨hv, k⟩ := xnilCheck_ok h (opd_ok he x)
    exact wp_here hK hs (m := pure (a.eval x)) (by rw [exec_nilCheck ho hv, pure_bind]) rfl (opd_ok he x) k
  · rename_i op t x y t2 ho
    obtain ⟨z, val, r, ra, k⟩ := xbin_ok (P := P) hT (xo := x) (yo := y) h (opd_ok he x) (opd_ok he y)
    exact wp_here hK hs (m := do eqGuard op t x y (a.eval x) (a.eval y); binOp op t (a.eval x) (a.eval y)) (by unfold execOp; rw [ho]) r (.t _ _ (ra w _)) k
  · rename_i op t x ho
    obtain ⟨z, val, r, ra, k⟩ := xun_ok (P := P) h (opd_ok he x)
    exact wp_here hK hs (m := Op.unary op (a.eval x)) (by unfold execOp; rw [ho]) r (.t _ _ (ra w _)) k
  · rename_i t u x ho
    obtain ⟨z, val, r, ra, k⟩ := xconvert_ok (P := P) hT hs h (opd_ok he x)
    exact wp_here hK hs (m := convert t u (a.eval x)) (by unfold execOp; rw [ho]) r ra k
  · rename_i t x ho
    rw [opt_iff] at h
    obtain ⟨y, hy, h⟩ := h
    rw [ck_iff] at h
    obtain ⟨hc, h⟩ := h
    have hd := (hT t y hy).d
    have run : (Instr.makeInterface t (a.eval x)).run P w = .ok (.iface t (a.eval x)) w := by
      simp only [Instr.makeInterface, Sem.run_bind, run_underlying hd, Result.andThen_ok]
      cases hyd : y.d <;> rw [hyd] at hc <;> first | rfl | (simp at hc)
    have hra := opd_ok he x
    split at h
    · rename_i v hv
      rw [hv] at hra
      exact wp_here hK hs (m := Instr.makeInterface t (a.eval x)) (by unfold execOp; rw [ho]) run (.t _ _ (.ifc _ _ _ hra.rt)) h
    · exact wp_here hK hs (m := Instr.makeInterface t (a.eval x)) (by unfold execOp; rw [ho]) run (.ifc _ _ _ hra) h
  · rename_i f first captured ho
    refine wp_here hK hs (m := Instr.makeFunc f (first.map a.eval) (captured.map a.eval)) (by unfold execOp; rw [ho]) rfl (.fn _ _ _ _ _ (by simp) (by simp) (fun i x v hi hv => ?_) (fun i x v hi hv => ?_)) h
    · exact opds_ok he first.toList i x v hi (by rw [← Array.getElem?_toList, Array.toList_map] at hv; exact hv)
    · exact opds_ok he captured.toList i x v hi (by rw [← Array.getElem?_toList, Array.toList_map] at hv; exact hv)
  · rename_i t l cp ho
    exact wp_value hK (m := Instr.makeSlice t (a.eval l) (a.eval cp)) (by unfold execOp; rw [ho]) (xmakeSlice_ok hT hs (opd_ok he l) (opd_ok he cp) h)
  · rename_i t x lo hi mx ho
    obtain ⟨z, val, r, ra, k⟩ := xslice_ok (P := P) hT hs h (opd_ok he x) (ro_map he lo) (ro_map he hi) (ro_map he mx)
    exact wp_here hK hs (m := Instr.sliceAt t (a.eval x) (lo.map a.eval) (hi.map a.eval) (mx.map a.eval)) (by unfold execOp; rw [ho]) r ra k
  · rename_i t x k0 ho
    obtain ⟨z, val, r, ra, k⟩ := xfieldAddr_ok (P := P) hT h (opd_ok he x)
    exact wp_here hK hs (m := Instr.fieldAt t (a.eval x) k0) (by unfold execOp; rw [ho]) r ra k
  · rename_i t x k0 ho
    obtain ⟨z, val, r, ra, k⟩ := xfield_ok (P := P) hT h (opd_ok he x)
    exact wp_here hK hs (m := Instr.field t (a.eval x) k0) (by unfold execOp; rw [ho]) r ra k
  · rename_i t x i ho
    obtain ⟨z, val, r, ra, k⟩ := xindexAddr_ok (P := P) hT h (opd_ok he x) (opd_ok he i)
    exact wp_here hK hs (m := Instr.indexAt t (a.eval x) (a.eval i)) (by unfold execOp; rw [ho]) r ra k
  · rename_i t x i ho
    obtain ⟨z, val, r, ra, k⟩ := xindex_ok (P := P) hT h (opd_ok he x) (opd_ok he i)
    exact wp_here hK hs (m := Instr.index t (a.eval x) (a.eval i)) (by unfold execOp; rw [ho]) r ra k
  · rename_i x i ho
    obtain ⟨z, val, r, ra, k⟩ := xextract_ok (P := P) h (opd_ok he x)
    exact wp_here hK hs (m := Instr.extract (a.eval x) i) (by unfold execOp; rw [ho]) r ra k
  · rename_i cl ho
    exact xcall_ok hT ho h hs he hK
  · rename_i t x ho
    exact wp_value hK (m := Instr.range t (a.eval x)) (by unfold execOp; rw [ho]) (xrange_ok hT hs h (opd_ok he x))
  · rename_i x st ho
    exact wp_value hK (m := Instr.next (a.eval x) st o.type) (by unfold execOp; rw [ho]) (xnext_ok hs h (opd_ok he x) _)
  · exact h.elim

end
end Go.Proofs.YthpkehhghcpolaaDoor

namespace Go.Proofs.YthpkehhghcpolaaDoor
open Go.RowKit
set_option linter.unusedVariables false
set_option linter.unusedSimpArgs false

/-- Where a function's walk began. -/
structure Org where
  N : Nat
  B : Nat
  w0 : World
  c0 : Cx
  H0 : AH
  ds : List Deferred

/-- A state of the walk and a state of the model. -/
structure Sat (O : Org) (c : Cx) (s : St) (a : Act) (w : World) : Prop where
  env : ∀ t, RA w c s.H (lk s.env t) (a.tmps.getD t undef)
  hs : HS w c s.H O.B
  size : a.tmps.size = O.N
  defers : a.defers = O.ds
  ev : Ev O.w0 O.c0 O.H0 w c s.H
  below : Below O.B O.w0 w

theorem Sat.go {O c s a w c' H' w'} (h : Sat O c s a w) (ev : Ev w c s.H w' c' H') (hs : HS w' c' H' O.B) (hb : Below O.B w w') : Sat O c' ⟨s.env, H'⟩ a w' :=
  ⟨fun t => (h.env t).ev ev, hs, h.size, h.defers, h.ev.trans ev, h.below.trans hb⟩

theorem lk_cons (d : Nat) (v : AV) (env : List (Nat × AV)) (t : Nat) : lk ((d, v) :: env) t = if d = t then v else lk env t := by
  simp only [lk]
  by_cases h : d = t
  · subst h; simp
  · have : Nat.beq d t = false := by
      cases hb : Nat.beq d t with
      | false => rfl
      | true => exact (h (Nat.eq_of_beq_eq_true hb)).elim
    rw [this, if_neg h]

/-- A slot is told anew. -/
theorem Sat.tell {O c s a w} (h : Sat O c s a w) {d : Nat} {v : AV} (hv : RA w c s.H v (a.tmps.getD d undef)) : Sat O c ⟨(d, v) :: s.env, s.H⟩ a w := by
  refine ⟨fun t => ?_, h.hs, h.size, h.defers, h.ev, h.below⟩
  rw [lk_cons]
  split
  · rename_i e; rw [← e]; exact hv
  · exact h.env t

theorem Sat.put {O c env H a w} (h : Sat O c ⟨env, H⟩ a w) (d : Option Tmp) (hd : ∀ k, d = some k → k < O.N) {v : AV} {val : Value} (hv : RA w c H v val) (s0 : St) (hs0 : s0.env = env) : Sat O c (s0.put d v H) (a.put d val) w := by
  subst hs0
  cases d with
  | none => exact h
  | some k =>
    have hk := hd k rfl
    refine ⟨fun t => ?_, h.hs, by simp [Act.put, h.size], h.defers, h.ev, h.below⟩
    simp only [St.put, Act.put]
    rw [lk_cons]
    have hks : k < a.tmps.size := by rw [h.size]; exact hk
    by_cases e : k = t
    · subst e
      rw [if_pos rfl]
      simp [Array.getD_eq_getD_getElem?, Array.getElem?_setIfInBounds_self_of_lt hks]
      exact hv
    · rw [if_neg e]
      simp only [Array.getD_eq_getD_getElem?, Array.getElem?_setIfInBounds_ne e]
      have := h.env t
      rwa [Array.getD_eq_getD_getElem?] at this

def dstOK (N : Nat) (o : Oper) : Bool :=
  match o.dst with
  | some d => Nat.blt d N
  | none => true

theorem dstOK_spec {N : Nat} {o : Oper} (h : dstOK N o = true) : ∀ k, o.dst = some k → k < N := by
  intro k hk
  simp only [dstOK, hk] at h
  simpa [Nat.blt_eq] using h

section
variable {P : Program} {tab : Tab}

/-- What a piece must do, seen from its end. -/
def Good (O : Org) (K : St → Prop) (Q : Act → World → Prop) : Prop := ∀ s c a w, Sat O c s a w → K s → Q a w

theorem slot_get {a : Act} {d : Nat} {b : Bool} (h : a.tmps.getD d undef = .bool b) : a.tmps[d]? = some (.bool b) := by
  rw [Array.getD_eq_getD_getElem?] at h
  cases hd : a.tmps[d]? with
  | none => simp [hd, undef] at h
  | some v => simpa [hd] using h

/-- One operation as its guard says, in a region that runs in order. -/
theorem xguard_ok (hT : TabOK P tab) {O : Org} {ops : Array Oper} {o : Oper} {s : St} {K : St → Prop} (h : xguard tab (CallS P) ops o s K) (hd : dstOK O.N o = true) {c : Cx} {a : Act} {w : World} (hs : Sat O c s a w)
    {next : Act → World → Prop} {Q : Exit → Act → World → Prop} (hK : Good O K next) :
    if Region.wanted o (yielded ops a.tmps) then o.wp P a w next Q else next (a.put o.dst undef) w := by
  have hd := dstOK_spec hd
  have run : ∀ {s : St}, Sat O c s a w → xop tab (CallS P) o s.env s.H (fun v H => K (s.put o.dst v H)) → o.wp P a w next Q := fun {s} hs h =>
    xop_ok hT h hs.hs hs.env (fun v val w' c' H' h1 h2 h3 h4 h5 => hK _ c' _ _ ((hs.go h3 h2 h4).put o.dst hd h1 s rfl) h5)
  have skip : ∀ {s : St}, Sat O c s a w → K (s.put o.dst (.tup []) s.H) → next (a.put o.dst undef) w := fun {s} hs h =>
    hK _ c _ _ (Sat.put (env := s.env) (H := s.H) hs o.dst hd (v := .tup []) (.tup [] #[] rfl (by simp)) s rfl) h
  obtain ⟨env, H⟩ := s
  simp only [xguard, stp_eq] at h
  split at h
  · rename_i hg
    rw [if_pos (by simp [Region.wanted, hg])]
    exact run hs h
  · rename_i j want hg
    rw [opt_iff] at h
    obtain ⟨d, hdj, h⟩ := h
    have hdj : (ops[j]?).bind (·.dst) = some d := hdj
    have hra := hs.env d
    split at h
    · rename_i b hl
      rw [hl] at hra
      have hslot := slot_get hra.bool
      have hyb : yielded ops a.tmps j = some b := by simp only [yielded, hdj, Option.bind_some, hslot]
      have tell : ∀ b', b = b' → Sat O c ⟨(d, .t (.bool b')) :: env, H⟩ a w := fun b' e => by
        subst e; exact hs.tell hra
      split at h
      · rw [br_iff] at h
        rcases h with ⟨rfl, h⟩ | ⟨rfl, h⟩
        · rw [if_pos (by simp [Region.wanted, hg, hyb])]
          exact run (tell true rfl) h
        · rw [if_neg (by simp [Region.wanted, hg, hyb])]
          exact skip (tell false rfl) h
      · rw [br_iff] at h
        rcases h with ⟨rfl, h⟩ | ⟨rfl, h⟩
        · rw [if_neg (by simp [Region.wanted, hg, hyb])]
          exact skip (tell true rfl) h
        · rw [if_pos (by simp [Region.wanted, hg, hyb])]
          exact run (tell false rfl) h
    · rename_i hl
      rw [hl] at hra
      have hu : a.tmps.getD d undef = .tuple #[] := by
        generalize a.tmps.getD d undef = q at hra
        cases hra with | tup _ vs hl' _ =>
        have : vs = #[] := Array.eq_empty_of_size_eq_zero (by simpa using hl'.symm)
        rw [this]
      have hyb : yielded ops a.tmps j = none := by
        rw [Array.getD_eq_getD_getElem?] at hu
        simp only [yielded, hdj, Option.bind_some]
        cases hq : a.tmps[d]? with
        | none => rfl
        | some v => simp [hq] at hu; subst hu; rfl
      rw [if_neg (by simp [Region.wanted, hg, hyb])]
      exact skip hs h
    · exact h.elim

theorem xops_ok (hT : TabOK P tab) {O : Org} {ops : Array Oper} {Q : Exit → Act → World → Prop} : ∀ {l : List Oper} {s : St} {K : St → Prop}, xops tab (CallS P) ops l s K → l.all (dstOK O.N) = true → ∀ {c : Cx} {a : Act} {w : World}, Sat O c s a w →
    Good O K (Q .normal) → wpList P ops Q l a w
  | [], s, K, h, hd, c, a, w, hs, hK => hK s c a w hs h
  | o :: r, s, K, h, hd, c, a, w, hs, hK => by
    simp only [List.all_cons, Bool.and_eq_true] at hd
    have := xguard_ok (Q := Q) (next := wpList P ops Q r) hT h hd.1 hs (fun s' c' a' w' h1 h4 => xops_ok hT h4 hd.2 h1 hK)
    unfold wpList
    split
    · rename_i hw; rw [if_pos hw] at this; exact .inl this
    · rename_i hw; rw [if_neg hw] at this; exact this

/-! ### Code -/

/-- A state says less than another ('k0': so many blocks were there when the function began). -/
def Weak (k0 : Nat) (s s' : St) : Prop := ∀ O c a w, O.H0.length = k0 → Sat O c s a w → ∃ c', Sat O c' s' a w

/-- A loop, by what holds at each round's head. -/
def LoopN (k0 : Nat) (body : (Ex → St → Prop) → St → Prop) (Q : Ex → St → Prop) (s : St) : Prop :=
  ∃ (I : Type) (S : I → St) (μ : I → Nat) (i : I), Weak k0 s (S i) ∧ ∀ i, body (fun e s' => match e with | .normal => ∃ j, Weak k0 s' (S j) ∧ μ j < μ i | e => Q e s') (S i)

/-- A loop, some rounds of it one by one, and what comes then. -/
noncomputable def LoopR (k0 : Nat) (n : Nat) : ((Ex → St → Prop) → St → Prop) → (Ex → St → Prop) → St → Prop :=
  @Nat.rec (fun _ => ((Ex → St → Prop) → St → Prop) → (Ex → St → Prop) → St → Prop) (fun body Q s => LoopN k0 body Q s)
    (fun _ ih body Q s => body (fun e s' => match e with | .normal => ih body Q s' | e => Q e s') s) n

def LoopU (k0 : Nat) (body : (Ex → St → Prop) → St → Prop) (Q : Ex → St → Prop) (s : St) : Prop := ∃ n, LoopR k0 n body Q s

theorem loop_un {k0 : Nat} {body : (Ex → St → Prop) → St → Prop} {Q : Ex → St → Prop} {s : St} (n : Nat) (h : LoopR k0 n body Q s) : LoopU k0 body Q s := ⟨n, h⟩

/-- What a loop's rounds come to, from the head of a round on. -/
def LoopWP (P : Program) (c : Code) (Q : Exit → Act → World → Prop) (a : Act) (w : World) : Prop :=
  ∀ (b : Frame) (k : List Item) (cs : List Frame), ∃ e a' w', Q e a' w' ∧ Arrives P (lone (b.at a (.code c :: .inLoop c :: k)) cs w) b k cs e a' w'

theorem LoopWP.wp {P : Program} {c : Code} {Q : Exit → Act → World → Prop} {a : Act} {w : World} (h : LoopWP P c Q a w) : (Code.loop c).wp P Q a w := fun b k cs => by
  obtain ⟨e, a', w', hq, harr⟩ := h b k cs
  exact ⟨e, a', w', hq, .of_steps (.one step_loop) harr⟩

theorem LoopWP.round {P : Program} {c : Code} {Q : Exit → Act → World → Prop} {a : Act} {w : World} (h : c.wp P (Exit.then (LoopWP P c Q) Q) a w) : LoopWP P c Q a w := fun b k cs => by
  obtain ⟨e, a₁, w₁, hq, harr⟩ := h b (.inLoop c :: k) cs
  cases e with
  | normal =>
    obtain ⟨e₂, a₂, w₂, hq₂, harr₂⟩ := hq b k cs
    exact ⟨e₂, a₂, w₂, hq₂, .of_steps (Steps.trans harr (.one step_inLoop)) harr₂⟩
  | exit id => exact ⟨_, a₁, w₁, hq, .pass (x := .inLoop c) rfl (fun _ _ => .inl (by simp)) harr⟩
  | goto l => exact ⟨_, a₁, w₁, hq, .pass (x := .inLoop c) rfl (fun _ _ => .inl (by simp)) harr⟩
  | ret => exact ⟨_, a₁, w₁, hq, .pass (x := .inLoop c) rfl (fun _ _ => .inl (by simp)) harr⟩
  | panic ch => exact ⟨_, a₁, w₁, hq, .pass (x := .inLoop c) rfl (fun _ _ => .inl (by simp)) harr⟩
  | outgrown => exact ⟨_, a₁, w₁, hq, .pass (x := .inLoop c) rfl (fun _ _ => .inl (by simp)) harr⟩

theorem LoopWP.inv {P : Program} {c : Code} {Q : Exit → Act → World → Prop} (I : Act → World → Prop) (μ : Act → World → Nat)
    (round : ∀ a w, I a w → c.wp P (Exit.then (fun a' w' => I a' w' ∧ μ a' w' < μ a w) Q) a w) : ∀ (n : Nat) (a : Act) (w : World), μ a w = n → I a w → LoopWP P c Q a w := by
  intro n
  induction n using Nat.strongRecOn with
  | _ n ih =>
    intro a w hn hI
    refine LoopWP.round (wp_mono (round a w hI) fun e a' w' hq => ?_)
    cases e with
    | normal => exact ih (μ a' w') (hn ▸ hq.2) a' w' rfl hq.1
    | _ => exact hq

/-- A region that draws its order: see DrawN. -/
abbrev RegP := Array Oper → St → (St → Prop) → Prop

noncomputable def xcode (tab : Tab) (call : CallP) (reg : RegP) (k0 : Nat) (x : Code) : (Ex → St → Prop) → St → Prop :=
  @Code.rec (fun _ => (Ex → St → Prop) → St → Prop)
    (fun Q s => Q .normal s)
    (fun _ ops draw Q s => match draw with
      | false => xops tab call ops ops.toList s fun s' => Q .normal s'
      | true => reg ops s fun s' => Q .normal s')
    (fun _ _ iha ihb Q s => iha (fun e s' => match e with | .normal => ihb Q s' | e => Q e s') s)
    (fun c _ _ iha ihb Q s => match opd s.env c with
      | .t (.bool t) => Br t (iha Q s) (ihb Q s)
      | _ => False)
    (fun id _ ih Q s => ih (fun e s' => match e with | .exit i => (match Nat.beq i id with | true => Q .normal s' | false => Q (.exit i) s') | e => Q e s') s)
    (fun _ ih Q s => LoopU k0 ih Q s)
    (fun _ _ _ _ _ _ _ _ => False) (fun id Q s => Q (.exit id) s) (fun _ _ _ _ => False) (fun _ _ _ => False) (fun _ _ _ => False) (fun Q s => Q .ret s) (fun _ _ _ => False) x

theorem xcode_cond {tab : Tab} {call : CallP} {reg : RegP} {k0 : Nat} {c : Operand} {x y : Code} {Q : Ex → St → Prop} {s : St} : xcode tab call reg k0 (.cond c x y) Q s = match opd s.env c with
    | .t (.bool t) => Br t (xcode tab call reg k0 x Q s) (xcode tab call reg k0 y Q s)
    | _ => False := rfl

/-- All operations write to slots that are there. -/
def slotsOK (N : Nat) : Code → Bool
  | .seq x y => slotsOK N x && slotsOK N y
  | .cond _ x y => slotsOK N x && slotsOK N y
  | .block _ x => slotsOK N x
  | .loop x => slotsOK N x
  | .region _ ops _ => ops.toList.all (dstOK N)
  | _ => true

def Ex.out : Ex → Exit
  | .normal => .normal
  | .exit id => .exit id
  | .ret => .ret

/-- What the code's end must give. -/
def Ends (O : Org) (Q : Ex → St → Prop) (R : Exit → Act → World → Prop) : Prop := ∀ e s c a w, Sat O c s a w → Q e s → R e.out a w

/-- What a region that draws its order must do. -/
def RegOK (P : Program) (tab : Tab) (reg : RegP) : Prop :=
  ∀ {O : Org} {id : Nat} {ops : Array Oper} {s : St} {K : St → Prop}, reg ops s K → ops.toList.all (dstOK O.N) = true → ∀ {c : Cx} {a : Act} {w : World} {R : Exit → Act → World → Prop}, Sat O c s a w → Good O K (R .normal) →
    (Code.region id ops true).wp P R a w

theorem xcode_ok (hT : TabOK P tab) {reg : RegP} (hreg : RegOK P tab reg) {O : Org} : ∀ {x : Code} {Q : Ex → St → Prop} {s : St}, xcode tab (CallS P) reg O.H0.length x Q s → slotsOK O.N x = true → ∀ {c : Cx} {a : Act} {w : World} {R : Exit → Act → World → Prop},
    Sat O c s a w → Ends O Q R → x.wp P R a w := by
  intro x
  induction x with
  | skip => intro Q s h hd c a w R hs hR; exact wp_skip (hR .normal s c a w hs h)
  | seq x y ihx ihy =>
    intro Q s h hd c a w R hs hR
    simp only [slotsOK, Bool.and_eq_true] at hd
    refine wp_seq (ihx h hd.1 hs fun e s' c' a' w' hs' hq => ?_)
    cases e with
    | normal => exact ihy hq hd.2 hs' hR
    | exit id => exact hR (.exit id) s' c' a' w' hs' hq
    | ret => exact hR .ret s' c' a' w' hs' hq
  | cond o x y ihx ihy =>
    intro Q s h hd c a w R hs hR
    simp only [slotsOK, Bool.and_eq_true] at hd
    rw [xcode_cond] at h
    have hra := opd_ok hs.env o
    split at h
    · rename_i t ht
      rw [ht] at hra
      refine wp_cond hra.bool ?_
      rw [br_iff] at h
      rcases h with ⟨rfl, h⟩ | ⟨rfl, h⟩
      · exact ihx h hd.1 hs hR
      · exact ihy h hd.2 hs hR
    · exact h.elim
  | block id x ih =>
    intro Q s h hd c a w R hs hR
    refine wp_block (ih h hd hs fun e s' c' a' w' hs' hq => ?_)
    cases e with
    | normal => exact hR .normal s' c' a' w' hs' hq
    | ret => exact hR .ret s' c' a' w' hs' hq
    | exit i =>
      simp only at hq
      simp only [Ex.out, Exit.inBlock]
      split at hq
      · rename_i hb
        rw [if_pos (Nat.eq_of_beq_eq_true hb)]
        exact hR .normal s' c' a' w' hs' hq
      · rename_i hb
        rw [if_neg (fun e => by subst e; simp at hb)]
        exact hR (.exit i) s' c' a' w' hs' hq
  | loop x ih =>
    intro Q s h hd c a w R hs hR
    obtain ⟨n, h⟩ := h
    refine LoopWP.wp ?_
    induction n generalizing s c a w with
    | succ n ihn =>
      refine LoopWP.round (ih h hd hs fun e s' c' a' w' hs' hq => ?_)
      cases e with
      | normal => exact ihn hs' hq
      | exit id => exact hR (.exit id) s' c' a' w' hs' hq
      | ret => exact hR .ret s' c' a' w' hs' hq
    | zero =>
    obtain ⟨I, S, μ, i0, h0, hround⟩ := h
    have hmin : ∀ a w, (∃ i c, Sat O c (S i) a w) → ∃ i c, Sat O c (S i) a w ∧ ∀ j c', Sat O c' (S j) a w → μ i ≤ μ j := by
      intro a w ⟨i, c, hi⟩
      have key : ∀ n i c, μ i = n → Sat O c (S i) a w → ∃ i c, Sat O c (S i) a w ∧ ∀ j c', Sat O c' (S j) a w → μ i ≤ μ j := by
        intro n
        induction n using Nat.strongRecOn with
        | _ n ihn =>
          intro i c hin hi
          by_cases hex : ∃ j c', Sat O c' (S j) a w ∧ μ j < μ i
          · obtain ⟨j, c', hj, hlt⟩ := hex
            exact ihn (μ j) (by omega) j c' rfl hj
          · exact ⟨i, c, hi, fun j c' hj => Nat.le_of_not_lt fun hlt => hex ⟨j, c', hj, hlt⟩⟩
      exact key _ i c rfl hi
    let μ' : Act → World → Nat := fun a w => open Classical in if hh : ∃ i c, Sat O c (S i) a w then μ (Classical.choose (hmin a w hh)) else 0
    have hμ' : ∀ a w j c', Sat O c' (S j) a w → μ' a w ≤ μ j := fun a w j c' hj => by
      have hh : ∃ i c, Sat O c (S i) a w := ⟨j, c', hj⟩
      simp only [μ', dif_pos hh]
      obtain ⟨c2, _, hle⟩ := Classical.choose_spec (hmin a w hh)
      exact hle j c' hj
    obtain ⟨c1, hs1⟩ := h0 O c a w rfl hs
    refine LoopWP.inv (fun a w => ∃ i c, Sat O c (S i) a w) μ' (fun a w hh => ?_) _ a w rfl ⟨i0, c1, hs1⟩
    obtain ⟨c2, hs2, _⟩ := Classical.choose_spec (hmin a w hh)
    have hval : μ' a w = μ (Classical.choose (hmin a w hh)) := by simp only [μ', dif_pos hh]
    refine ih (hround (Classical.choose (hmin a w hh))) hd hs2 fun e s' c' a' w' hs' hq => ?_
    cases e with
    | normal =>
      obtain ⟨j, hw, hlt⟩ := hq
      obtain ⟨c3, hs3⟩ := hw O c' a' w' rfl hs'
      exact ⟨⟨j, c3, hs3⟩, by have := hμ' a' w' j c3 hs3; omega⟩
    | exit id => exact hR (.exit id) s' c' a' w' hs' hq
    | ret => exact hR .ret s' c' a' w' hs' hq
  | exit id => intro Q s h hd c a w R hs hR; exact wp_exit (hR (.exit id) s c a w hs h)
  | ret => intro Q s h hd c a w R hs hR; exact wp_ret (hR .ret s c a w hs h)
  | region id ops draw =>
    intro Q s h hd c a w R hs hR
    cases draw with
    | false => exact wp_region_list (xops_ok hT h hd hs fun s' c' a' w' hs' hq => hR .normal s' c' a' w' hs' hq)
    | true => exact hreg h hd hs fun s' c' a' w' hs' hq => hR .normal s' c' a' w' hs' hq
  | _ => intro Q s h; exact h.elim

/-! ### Functions -/

/-- What a function hands back. -/
def xres (tab : Tab) (s : St) : List ResultVar → (List AV → Prop) → Prop
  | [], K => K []
  | .tmp t :: r, K => xres tab s r fun l => K (lk s.env t :: l)
  | .cell a ty :: r, K => xload tab ty s.H (lk s.env a) fun v => xres tab s r fun l => K (v :: l)

def tupOf : List AV → AV
  | [v] => v
  | l => .tup l

def args0 : Nat → List AV → List (Nat × AV)
  | _, [] => []
  | n, a :: r => (n, a) :: args0 (n + 1) r

/-- A function's body, called with such arguments. -/
def xfn (tab : Tab) (call : CallP) (reg : RegP) (k0 : Nat) (fn : Func) (x : Code) (args : List AV) (H : AH) (Q : AV → AH → Prop) : Prop :=
  Ck (Nat.ble args.length fn.ntmps && slotsOK fn.ntmps x)
    (xcode tab call reg k0 x (fun e s => match e with | .exit _ => False | _ => xres tab s fn.results.toList fun l => Q (tupOf l) s.H) ⟨args0 0 args, H⟩)

theorem args0_lk : ∀ (args : List AV) (n t : Nat), lk (args0 n args) t = if n ≤ t then args.getD (t - n) .junk else .junk
  | [], n, t => by simp [args0, lk]
  | a :: r, n, t => by
    simp only [args0]
    rw [lk_cons, args0_lk r (n + 1) t]
    by_cases h : n = t
    · subst h; simp
    · by_cases h2 : n + 1 ≤ t
      · rw [if_neg h, if_pos h2, if_pos (by omega), show t - n = (t - (n + 1)) + 1 by omega]; rfl
      · rw [if_neg h, if_neg h2, if_neg (by omega)]

def resOne (tmps : Array Value) : ResultVar → Sem Value
  | .tmp t => pure (tmps.getD t undef)
  | .cell a t => do loadVar t (← asAddr (tmps.getD a undef))

theorem results_eq (fn : Func) (tmps : Array Value) : results fn tmps = (do
    let vs ← fn.results.mapM (resOne tmps)
    pure (if h : vs.size = 1 then vs[0] else .tuple vs)) := by
  unfold results
  congr

theorem xres_ok (hT : TabOK P tab) {O : Org} {c : Cx} {s : St} {a : Act} {w : World} (hs : Sat O c s a w) : ∀ {l : List ResultVar} {K : List AV → Prop}, xres tab s l K →
    ∃ vs : List AV, ∃ us : List Value, (l.mapM (resOne a.tmps)).run P w = .ok us w ∧ vs.length = us.length ∧
      (∀ (i : Nat) x v, vs[i]? = some x → us[i]? = some v → RA w c s.H x v) ∧ K vs
  | [], K, h => ⟨[], [], by simp, rfl, by simp, h⟩
  | .tmp t :: r, K, h => by
    obtain ⟨vs, us, h1, h2, h3, h4⟩ := xres_ok hT hs (l := r) h
    refine ⟨_, a.tmps.getD t undef :: us, ?_, by simp [h2], fun i x v hi hv => ?_, h4⟩
    · simp only [List.mapM_cons, resOne, Sem.run_bind, Sem.run_pure, Result.andThen_ok, h1]
    · cases i with
      | zero => simp only [List.getElem?_cons_zero, Option.some.injEq] at hi hv; subst hi hv; exact hs.env t
      | succ i => simp only [List.getElem?_cons_succ] at hi hv; exact h3 i x v hi hv
  | .cell p ty :: r, K, h => by
    simp only [xres] at h
    obtain ⟨y, val, r1, r2, k⟩ := xload_ok (P := P) hT hs.hs h (hs.env p)
    obtain ⟨vs, us, h1, h2, h3, h4⟩ := xres_ok hT hs (l := r) k
    refine ⟨_, val :: us, ?_, by simp [h2], fun i x v hi hv => ?_, h4⟩
    · have ha : ∃ ad, a.tmps.getD p undef = .pointer (some ad) := by
        simp only [Instr.loadAt, Sem.run_bind] at r1
        generalize a.tmps.getD p undef = q at r1
        cases q with
        | pointer x => cases x with
          | none => simp [Instr.sureAddr] at r1
          | some ad => exact ⟨ad, rfl⟩
        | _ => simp [Instr.sureAddr] at r1
      obtain ⟨ad, had⟩ := ha
      rw [had] at r1
      simp only [Instr.loadAt, Instr.sureAddr, pure_bind] at r1
      simp only [List.mapM_cons, resOne, Sem.run_bind, had, asAddr, Sem.run_pure, Result.andThen_ok, r1, h1]
    · cases i with
      | zero => simp only [List.getElem?_cons_zero, Option.some.injEq] at hi hv; subst hi hv; exact r2
      | succ i => simp only [List.getElem?_cons_succ] at hi hv; exact h3 i x v hi hv

theorem results_ok (hT : TabOK P tab) {O : Org} {c : Cx} {s : St} {a : Act} {w : World} (hs : Sat O c s a w) {fn : Func} {K : List AV → Prop} (h : xres tab s fn.results.toList K) :
    ∃ vs val, (results fn a.tmps).run P w = .ok val w ∧ RA w c s.H (tupOf vs) val ∧ K vs := by
  obtain ⟨vs, us, h1, h2, h3, h4⟩ := xres_ok hT hs h
  refine ⟨vs, if h : us.length = 1 then us[0] else .tuple us.toArray, ?_, ?_, h4⟩
  · rw [results_eq, Array.mapM_eq_mapM_toList]
    simp only [Sem.run_bind, Sem.run_map, h1, Result.andThen_ok, Sem.run_pure, List.size_toArray, List.getElem_toArray]
  · match vs, us, h2, h3 with
    | [x], [u], _, h3 => exact h3 0 x u rfl rfl
    | [], [], _, h3 => exact .tup [] #[] rfl (by simp)
    | x :: y :: r, u :: v :: q, h2, h3 =>
      have : ¬ (u :: v :: q).length = 1 := by simp
      rw [dif_neg this]
      exact .tup _ _ (by simpa using h2) (fun i x v hi hv => h3 i x v hi (by simpa using hv))

/-- A function whose body does so, called in the midst of a walk. -/
theorem CallS.of_fn (hT : TabOK P tab) {reg : RegP} (hreg : RegOK P tab reg) {f : FuncId} {fn : Func} {x : Code} (hf : P.funcs[f]? = some fn) (hb : fn.body = some x) (hn : (fn.name == "runtime.NumGoroutine") = false)
    {args : List AV} {H : AH} {Q : AV → AH → Prop} (h : xfn tab (CallS P) reg H.length fn x args H Q) : CallS P f args H Q := by
  unfold xfn at h
  rw [ck_iff] at h
  obtain ⟨hc, h⟩ := h
  simp only [Bool.and_eq_true] at hc
  have hle := Nat.le_of_ble_eq_true hc.1
  refine fun B c w vs hs hl hr => .inl ⟨⟨fn, hf, by rw [hb]; rfl, hn⟩, calls_of_wp hf hb ?_⟩
  let O : Org := ⟨fn.ntmps, B, w, c, H, []⟩
  have hs0 : Sat O c ⟨args0 0 args, H⟩ { tmps := vs ++ Array.replicate (fn.ntmps - vs.size) undef, defers := [] } w := by
    refine ⟨fun t => ?_, hs, by simp [O]; omega, rfl, Ev.refl _ _ _, Below.refl _ _⟩
    rw [args0_lk, if_pos (Nat.zero_le _), Nat.sub_zero]
    simp only [Array.getD_eq_getD_getElem?, List.getD_eq_getElem?_getD]
    by_cases ht : t < args.length
    · rw [Array.getElem?_append_left (by omega)]
      obtain ⟨v, hv⟩ := arr_get (a := vs) (i := t) (by omega)
      have ha : args[t]? = some args[t] := List.getElem?_eq_getElem ht
      rw [hv, ha]
      exact hr t _ v ha hv
    · rw [List.getElem?_eq_none (by omega)]
      exact .junk _
  refine xcode_ok hT hreg (O := O) h hc.2 hs0 fun e s' c' a' w' hs' hq => ?_
  cases e with
  | exit id => exact hq.elim
  | normal =>
    obtain ⟨l, val, r1, r2, k⟩ := results_ok hT hs' hq
    exact ⟨hs'.defers, val, r1, val, c', _, s'.H, rfl, r2, hs'.hs, hs'.ev, hs'.below, k⟩
  | ret =>
    obtain ⟨l, val, r1, r2, k⟩ := results_ok hT hs' hq
    exact ⟨hs'.defers, val, r1, val, c', _, s'.H, rfl, r2, hs'.hs, hs'.ev, hs'.below, k⟩

end
end Go.Proofs.YthpkehhghcpolaaDoor

namespace Go.Proofs.YthpkehhghcpolaaDoor
open Go.RowKit
set_option linter.unusedVariables false
set_option linter.unusedSimpArgs false

/-! ### What a walk holds, as data -/

mutual
/-- A value as data, with the blocks that it is read from. -/
def snapF : Nat → AH → AV → Option (T × List Nat)
  | 0, _, _ => none
  | k + 1, H, v =>
    match v with
    | .t x => some (x, [])
    | .sl b g i m =>
      match H[b]? with
      | some (.arr _ s z gen l) =>
        match Nat.beq g gen with
        | true => match z && Nat.beq l.length 0 with
          | true => some (.nils, [])
          | false => match l.part i m with
            | .ts q => some (.vec s q, [b])
            | .vs q => match snapL k H q with | some (q, ids) => some (.vec s q, b :: ids) | none => none
        | false => none
      | _ => none
    | .emp => some (.vec 0 [], [])
    | .ptr b _ _ o =>
      match H[b]? with
      | some (.box cells) => match snapL k H (cells.drop o) with | some (l, ids) => some (.iptr l, b :: ids) | none => none
      | _ => none
    | .agg cs => match cs.all AV.one, snapL k H cs with | true, some (l, ids) => some (.agg l, ids) | _, _ => none
    | .fn f a b => match snapL k H a, snapL k H b with | some (x, i), some (y, j) => some (.fn f x y, i ++ j) | _, _ => none
    | .ifc t v => match snapF k H v with | some (x, i) => some (.ifc t x, i) | none => none
    | _ => none
def snapL : Nat → AH → List AV → Option (List T × List Nat)
  | 0, _, _ => none
  | _ + 1, _, [] => some ([], [])
  | k + 1, H, v :: r => match snapF k H v, snapL k H r with | some (x, i), some (l, j) => some (x :: l, i ++ j) | _, _ => none
end

theorem snapF_one : ∀ (k : Nat) {H : AH} {v : AV} {x : T} {ids : List Nat}, snapF k H v = some (x, ids) → v.one = true → x.one = true
  | 0, H, v, x, ids, h, _ => by simp [snapF] at h
  | k + 1, H, v, x, ids, h, h1 => by
    simp only [snapF] at h
    split at h
    · cases h; exact h1
    · split at h
      · split at h
        · split at h
          · cases h; rfl
          · split at h
            · cases h; rfl
            · split at h
              · cases h; rfl
              · cases h
        · cases h
      · cases h
    · cases h; rfl
    · split at h
      · split at h
        · cases h; rfl
        · cases h
      · cases h
    · simp [AV.one] at h1
    · split at h
      · cases h; rfl
      · cases h
    · split at h
      · cases h; rfl
      · cases h
    · cases h

/-- A list as data: element by element. -/
theorem snapL_get : ∀ (k : Nat) {H : AH} {cs : List AV} {l : List T} {ids : List Nat}, snapL k H cs = some (l, ids) → l.length = cs.length ∧
    ∀ (i : Nat) y, l[i]? = some y → ∃ x m js, cs[i]? = some x ∧ m < k ∧ snapF m H x = some (y, js) ∧ ∀ b ∈ js, b ∈ ids
  | 0, H, cs, l, ids, h => by simp [snapL] at h
  | k + 1, H, [], l, ids, h => by
    simp [snapL] at h
    obtain ⟨rfl, rfl⟩ := h
    simp
  | k + 1, H, a :: r, l, ids, h => by
    simp only [snapL] at h
    split at h
    · rename_i x i1 l1 j1 hx hl1
      cases h
      obtain ⟨h1, h2⟩ := snapL_get k hl1
      refine ⟨by simp [h1], fun i y hi => ?_⟩
      cases i with
      | zero => simp at hi; subst hi; exact ⟨a, k, i1, rfl, Nat.lt_succ_self k, hx, fun b hb => by simp [hb]⟩
      | succ i =>
        simp at hi
        obtain ⟨x', m, js, a1, a2, a3, a4⟩ := h2 i y hi
        exact ⟨x', m, js, a1, by omega, a3, fun b hb => by simp [a4 b hb]⟩
    · cases h

theorem snapF_ok {w : World} {c : Cx} {H : AH} {B : Nat} (hs : HS w c H B) {M' : Nat → Prop} (hM1 : ∀ cb, M' cb → c.M H cb) (k : Nat) : ∀ {v : AV} {u : Value} {x : T} {ids : List Nat},
    snapF k H v = some (x, ids) → RA w c H v u → (∀ b ∈ ids, ∀ cb, c.G b = some cb → ¬ M' cb) → RT w M' x u := by
  induction k using Nat.strongRecOn with
  | _ k ih =>
  intro v u x ids h hr hM2
  cases k with
  | zero => simp [snapF] at h
  | succ k =>
    have mono : ∀ {x : T} {u : Value}, RT w (c.M H) x u → RT w M' x u := fun h => h.mono fun b _ hb => ⟨rfl, fun hm => hb (hM1 b hm)⟩
    -- a list of values
    have list : ∀ {m : Nat} {cs : List AV} {l : List T} {js : List Nat}, m ≤ k → snapL m H cs = some (l, js) → (∀ b ∈ js, ∀ cb, c.G b = some cb → ¬ M' cb) →
        l.length = cs.length ∧ ∀ (i : Nat) y, l[i]? = some y → ∃ x, cs[i]? = some x ∧ (x.one = true → y.one = true) ∧ ∀ v, RA w c H x v → RT w M' y v := by
      intro m cs l js hm hl hj
      obtain ⟨h1, h2⟩ := snapL_get m hl
      refine ⟨h1, fun i y hi => ?_⟩
      obtain ⟨x, m', js', a1, a2, a3, a4⟩ := h2 i y hi
      exact ⟨x, a1, snapF_one m' a3, fun v hv => ih m' (by omega) a3 hv fun b hb => hj b (a4 b hb)⟩
    -- a value's cells
    have cells : ∀ {m : Nat} {x : AV} {y : T} {js : List Nat}, m ≤ k → snapF m H x = some (y, js) → (∀ b ∈ js, ∀ cb, c.G b = some cb → ¬ M' cb) →
        y.cells.length = x.cells.length ∧ ∀ (j : Nat) z, y.cells[j]? = some z → ∃ x', x.cells[j]? = some x' ∧ (x'.one = true → z.one = true) ∧ ∀ v, RA w c H x' v → RT w M' z v := by
      intro m x y js hm hx hj
      have single : x.one = true → x.cells = [x] → y.cells.length = x.cells.length ∧ ∀ (j : Nat) z, y.cells[j]? = some z → ∃ x', x.cells[j]? = some x' ∧ (x'.one = true → z.one = true) ∧ ∀ v, RA w c H x' v → RT w M' z v := by
        intro h1 hc
        have hy1 := snapF_one m hx h1
        rw [hc, T.cells_one hy1]
        refine ⟨rfl, fun j z hz => ?_⟩
        cases j with
        | zero => simp at hz; subst hz; exact ⟨x, rfl, fun _ => hy1, fun v hv => ih m (by omega) hx hv hj⟩
        | succ j => simp at hz
      cases m with
      | zero => simp [snapF] at hx
      | succ m =>
        cases x with
        | t x =>
          simp only [snapF] at hx
          cases hx
          rw [T.cells_t]
          refine ⟨by simp, fun j z hz => ⟨.t z, by simp [hz], fun h => h, fun v hv => ?_⟩⟩
          exact mono hv.rt
        | agg cs =>
          simp only [snapF] at hx
          split at hx
          · rename_i hall hl
            cases hx
            obtain ⟨h1, h2⟩ := list (by omega) hl hj
            exact ⟨h1, h2⟩
          · cases hx
        | ptr b g i o => exact single rfl rfl
        | sl b g i n => exact single rfl rfl
        | fn f a b => exact single rfl rfl
        | ifc t v => exact single rfl rfl
        | emp => exact single rfl rfl
        | tup => simp [snapF] at hx
        | own => simp [snapF] at hx
        | junk => simp [snapF] at hx
    simp only [snapF] at h
    split at h
    · cases h; exact mono hr.rt
    · rename_i b g i m
      cases hr with | sl _ _ _ _ _ blk hb hm hv =>
      rw [hb] at h
      cases blk with
      | dead => cases h
      | box => cases h
      | iter => cases h
      | arr e s z gen l =>
        simp only at h
        split at h
        · rename_i hg
          obtain ⟨hlen, hm⟩ := hm.2 (Nat.eq_of_beq_eq_true hg)
          split at h
          · rename_i hz
            cases h
            simp at hz
            rcases hm with ⟨_, _, rfl⟩ | ⟨z1, _⟩ | ⟨hne, _⟩
            · exact .nils
            · rw [hz.1] at z1; cases z1
            · exact (hne hz).elim
          · rename_i hz
            have hnil : ¬ (z = true ∧ l.length = 0) := fun ⟨a, b⟩ => by rw [a, b] at hz; cases hz
            -- the elements as data
            have elem : ∃ q, x = .vec s q ∧ b ∈ ids ∧ q.length = (l.part i m).length ∧ ∀ (k : Nat) y, q[k]? = some y → ∃ x0, (l.part i m).get k = some x0 ∧ y.cells.length = x0.cells.length ∧
                ∀ (j : Nat) z, y.cells[j]? = some z → ∃ x', x0.cells[j]? = some x' ∧ (x'.one = true → z.one = true) ∧ ∀ v, RA w c H x' v → RT w M' z v := by
              split at h
              · rename_i q hq
                cases h
                rw [hq]
                refine ⟨q, rfl, by simp, rfl, fun k y hk => ⟨.t y, by simp [Sq.get, hk], by rw [T.cells_t]; simp, fun j z hz => ?_⟩⟩
                rw [T.cells_t]
                exact ⟨.t z, by simp [hz], fun h => h, fun v hv => mono hv.rt⟩
              · rename_i q hq
                split at h
                · rename_i q' js hl
                  cases h
                  rw [hq]
                  obtain ⟨h1, h2⟩ := snapL_get k hl
                  refine ⟨q', rfl, by simp, h1, fun k' y hk => ?_⟩
                  obtain ⟨x0, m', js', a1, a2, a3, a4⟩ := h2 k' y hk
                  obtain ⟨c1, c2⟩ := cells (by omega) a3 fun b' hb' => hM2 b' (by simp [a4 b' hb'])
                  exact ⟨x0, a1, c1, c2⟩
                · cases h
            obtain ⟨q, rfl, hbi, hql, hqe⟩ := elem
            rw [Sq.part_length] at hql
            rcases hm with ⟨h1, h2, _⟩ | ⟨z1, l1, ad, rfl⟩ | ⟨hne, cb, cap, off, hg, rfl, hsz, hcap, hmx, hoff, hoff0⟩
            · exact (hnil ⟨h1, h2⟩).elim
            · have hq0 : q = [] := List.eq_nil_of_length_eq_zero (by omega)
              subst hq0
              obtain ⟨cb, off, sp⟩ := ad
              exact .vec s [] cb off 0 sp (fun _ _ => undef) (by simp) (by simp) (by simp) (by simp) (by simp) (by simp)
            · obtain ⟨arr, cap', h1, h2, h3, h4, h5⟩ := hs.arr b cb e s z gen l hb hg
              have hn : q.length = m := by rw [hql, Nat.min_eq_left (Nat.le_sub_of_add_le (by rw [Nat.add_comm]; exact hlen))]
              have hM : ¬ M' cb := hM2 b hbi cb hg
              have cellOf : ∀ (k : Nat) e' (j : Nat) y, q[k]? = some e' → e'.cells[j]? = some y → ∃ u, arr[(i + k) * s + j]? = some u ∧ y.one = true ∧ RT w M' y u := by
                intro k e' j y hk hj
                obtain ⟨x0, a1, a2, a3⟩ := hqe k e' hk
                obtain ⟨x', b1, b2, b3⟩ := a3 j y hj
                rw [Sq.part_get] at a1
                split at a1
                · obtain ⟨u, hu, c1, c2, c3⟩ := (h5 _ _ a1).2 j x' b1
                  exact ⟨u, hu, b2 c1, b3 u c2⟩
                · cases a1
              have := RT.vec (w := w) (M := M') s q cb off cap none (fun k j => arr.getD ((i + k) * s + j) undef) (fun _ _ => hM) (by omega) (fun _ => rfl)
                (fun k e' hk => by
                  obtain ⟨x0, a1, a2, a3⟩ := hqe k e' hk
                  rw [Sq.part_get] at a1
                  split at a1
                  · rw [a2]; exact (h5 _ _ a1).1
                  · cases a1)
                (fun k e' j y hk hj => by
                  obtain ⟨u, hu, h6, h7⟩ := cellOf k e' j y hk hj
                  have hlt := lt_of_getElem? hk
                  have hoff' : off = i * s := hoff.resolve_left (by omega)
                  rw [cell_row h1, show off + k * s + j = (i + k) * s + j by rw [hoff', Nat.add_mul], hu]
                  exact ⟨by simp [Array.getD_eq_getD_getElem?, hu], h6⟩)
                (fun k e' j y hk hj => by
                  obtain ⟨u, hu, h6, h7⟩ := cellOf k e' j y hk hj
                  simp only [Array.getD_eq_getD_getElem?, hu, Option.getD_some]
                  exact h7)
              rw [hn] at this
              exact this
        · cases h
    · cases h
      cases hr
      exact .vec 0 [] _ _ 0 _ (fun _ _ => undef) (by simp) (by simp) (by simp) (by simp) (by simp) (by simp)
    · rename_i b g i o
      cases hr with | ptr _ _ _ _ _ blk hb hm hv =>
      rw [hb] at h
      cases blk with
      | dead => cases h
      | arr => cases h
      | iter => cases h
      | box cells =>
        simp only at h
        obtain ⟨cb, hg, rfl⟩ := hm
        split at h
        · rename_i l j hl
          cases h
          obtain ⟨arr, e, h1, h2, h3⟩ := hs.box b cb cells hb hg
          obtain ⟨k1, k2⟩ := list (Nat.le_refl k) hl fun b' hb' => hM2 b' (by simp [hb'])
          have hcell : ∀ (i : Nat) y, l[i]? = some y → ∃ v, arr[o + i]? = some v ∧ y.one = true ∧ RT w M' y v := by
            intro i y hi
            obtain ⟨x', b1, b2, b3⟩ := k2 i y hi
            rw [List.getElem?_drop] at b1
            obtain ⟨v, hv⟩ := arr_get (a := arr) (i := o + i) (by have := lt_of_getElem? b1; omega)
            obtain ⟨c1, c2, _⟩ := h3 _ x' v b1 hv
            exact ⟨v, hv, b2 c1, b3 v c2⟩
          refine .iptr l cb o (fun i => arr.getD (o + i) undef) (fun _ => hM2 b (by simp) cb hg) (fun i y hi => ?_) (fun i y hi => ?_)
          · obtain ⟨q, hq, hone, _⟩ := hcell i y hi
            exact ⟨by rw [cell_row h1, hq]; simp [Array.getD_eq_getD_getElem?, hq], hone⟩
          · obtain ⟨q, hq, hone, hrt⟩ := hcell i y hi
            simp only [Array.getD_eq_getD_getElem?, hq, Option.getD_some]
            exact hrt
        · cases h
    · rename_i cs
      split at h
      · rename_i hall hl
        rename_i l j
        cases h
        cases hr with | agg _ vs hlen h1 hrr =>
        obtain ⟨k1, k2⟩ := list (Nat.le_refl k) hl hM2
        refine .agg l vs (by omega) (fun i y hi => ?_) (fun i y v hi hv => ?_)
        · obtain ⟨x', b1, b2, _⟩ := k2 i y hi
          exact b2 (h1 i x' b1)
        · obtain ⟨x', b1, _, b3⟩ := k2 i y hi
          exact b3 v (hrr i x' v b1 hv)
      · cases h
    · rename_i f a b
      split at h
      · rename_i x1 i1 y1 j1 ha hb
        cases h
        cases hr with | fn _ _ _ p q hla hlb hra hrb =>
        obtain ⟨k1, k2⟩ := list (Nat.le_refl k) ha fun b' hb' => hM2 b' (by simp [hb'])
        obtain ⟨k3, k4⟩ := list (Nat.le_refl k) hb fun b' hb' => hM2 b' (by simp [hb'])
        refine .fn f x1 y1 p q (by omega) (by omega) (fun i y v hi hv => ?_) (fun i y v hi hv => ?_)
        · obtain ⟨x', b1, _, b3⟩ := k2 i y hi
          exact b3 v (hra i x' v b1 hv)
        · obtain ⟨x', b1, _, b3⟩ := k4 i y hi
          exact b3 v (hrb i x' v b1 hv)
      · cases h
    · split at h
      · rename_i x1 i1 hx
        cases h
        cases hr with | ifc _ _ v hr =>
        exact .ifc _ _ _ (ih k (Nat.lt_succ_self k) hx hr hM2)
      · cases h
    · cases h

theorem snapL_ok {w : World} {c : Cx} {H : AH} {B : Nat} (hs : HS w c H B) {M' : Nat → Prop} (hM1 : ∀ cb, M' cb → c.M H cb) (k : Nat) {cs : List AV} {vs : List Value} {l : List T} {ids : List Nat}
    (h : snapL k H cs = some (l, ids)) (hl : cs.length = vs.length) (hr : ∀ (i : Nat) x v, cs[i]? = some x → vs[i]? = some v → RA w c H x v) (hM2 : ∀ b ∈ ids, ∀ cb, c.G b = some cb → ¬ M' cb) :
    l.length = cs.length ∧ ∀ (i : Nat) x v, l[i]? = some x → vs[i]? = some v → RT w M' x v := by
  obtain ⟨h1, h2⟩ := snapL_get k h
  refine ⟨h1, fun i y v hi hv => ?_⟩
  obtain ⟨x, m, js, a1, a2, a3, a4⟩ := h2 i y hi
  exact snapF_ok hs hM1 m a3 (hr i x v a1 hv) fun b hb => hM2 b (a4 b hb)

/-! ### What is handed back -/

/-- 'r' tells what 'v' is, read in the walk's memory. -/
def packP1 (H : AH) : AV → AV → Prop
  | .own e s z l, .sl b g i m => H[b]? = some (.arr e s z g (.ts l)) ∧ i = 0 ∧ m = l.length
  | .t x, v => (snapF 5000 H v).map Prod.fst = some x
  | _, _ => False

def own1 : AV → AV → List Nat
  | .own _ _ _ _, .sl b _ _ _ => [b]
  | _, _ => []

def fro1 (H : AH) : AV → AV → List Nat
  | .t _, v => match snapF 5000 H v with | some (_, ids) => ids | none => []
  | _, _ => []

def packPL (H : AH) : List AV → List AV → Prop
  | [], [] => True
  | r :: rs, v :: vs => packP1 H r v ∧ packPL H rs vs
  | _, _ => False

def ownL : List AV → List AV → List Nat
  | r :: rs, v :: vs => own1 r v ++ ownL rs vs
  | _, _ => []

def froL (H : AH) : List AV → List AV → List Nat
  | r :: rs, v :: vs => fro1 H r v ++ froL H rs vs
  | _, _ => []

def packP2 (H : AH) : AV → AV → Prop
  | .agg rs, .agg vs => packPL H rs vs ∧ rs.all AV.one = true
  | r, v => packP1 H r v

def own2 : AV → AV → List Nat
  | .agg rs, .agg vs => ownL rs vs
  | r, v => own1 r v

def fro2 (H : AH) : AV → AV → List Nat
  | .agg rs, .agg vs => froL H rs vs
  | r, v => fro1 H r v

def packPL2 (H : AH) : List AV → List AV → Prop
  | [], [] => True
  | r :: rs, v :: vs => packP2 H r v ∧ packPL2 H rs vs
  | _, _ => False

def ownL2 : List AV → List AV → List Nat
  | r :: rs, v :: vs => own2 r v ++ ownL2 rs vs
  | _, _ => []

def froL2 (H : AH) : List AV → List AV → List Nat
  | r :: rs, v :: vs => fro2 H r v ++ froL2 H rs vs
  | _, _ => []

def packP (H : AH) : AV → AV → Prop
  | .tup rs, .tup vs => packPL2 H rs vs
  | r, v => packP2 H r v

def owns : AV → AV → List Nat
  | .tup rs, .tup vs => ownL2 rs vs
  | r, v => own2 r v

def fros (H : AH) : AV → AV → List Nat
  | .tup rs, .tup vs => froL2 H rs vs
  | r, v => fro2 H r v

def apartB (own fro : List Nat) : Bool := decide (own.Nodup) && own.all fun b => !fro.contains b

/-- What a function's end must give for its contract. -/
def Pack (r : AV) (v : AV) (H : AH) : Prop := packP H r v ∧ apartB (owns r v) (fros H r v) = true

/-- A row as a new one. -/
def Blk.re : Blk → Blk
  | .arr e s z _ l => .arr e s z 0 l
  | b => b

theorem Blk.re_live {b : Blk} (h : b.re.live = true) : b.live = true := by cases b <;> first | rfl | exact h

/-- How the blocks that are handed back are numbered anew. -/
structure Ren (w : World) (c : Cx) (H : AH) (n : Nat) (I : List Nat) (c' : Cx) (H' : AH) : Prop where
  hM1 : ∀ cb, c'.M H' cb → c.M H cb
  hM2 : ∀ b, b ∉ I → ∀ cb, c.G b = some cb → ¬ c'.M H' cb
  at_ : ∀ (k : Nat) b blk, I[k]? = some b → H[b]? = some blk → H'[n + k]? = some blk.re ∧ c'.G (n + k) = c.G b

theorem packP1_ok {w : World} {c : Cx} {H : AH} {B n k : Nat} {I : List Nat} {c' : Cx} {H' : AH} (hs : HS w c H B) (ren : Ren w c H n I c' H') {r v : AV} {u : Value} (h : packP1 H r v) (hr : RA w c H v u)
    (hI : ∀ (j : Nat) b, (own1 r v)[j]? = some b → I[k + j]? = some b) (hF : ∀ b ∈ fro1 H r v, b ∉ I) :
    RA w c' H' (imp1 (n + k) r).1 u ∧ (imp1 (n + k) r).2 = (own1 r v).map (fun b => (H.getD b .dead).re) := by
  unfold packP1 at h
  split at h
  · rename_i e s z l b g i m
    obtain ⟨hb, rfl, rfl⟩ := h
    have hk := hI 0 b rfl
    obtain ⟨h1, h2⟩ := ren.at_ _ b _ hk hb
    cases hr with | sl _ _ _ _ _ blk hb' hm hv =>
    rw [hb] at hb'
    cases hb'
    rw [Nat.add_zero] at h1 h2
    refine ⟨.sl _ _ _ _ _ (.arr e s z 0 (.ts l)) h1 ⟨Nat.le_refl _, fun _ => ?_⟩ hv, by simp [imp1, own1, List.getD, hb, Blk.re]⟩
    obtain ⟨h3, h4⟩ := hm.2 rfl
    refine ⟨h3, ?_⟩
    rcases h4 with h4 | h4 | ⟨a1, cb, cap, off, a2, a3⟩
    · exact .inl h4
    · exact .inr (.inl h4)
    · exact .inr <| .inr ⟨a1, cb, cap, off, by rw [h2]; exact a2, a3⟩
  · rename_i x _
    rw [Option.map_eq_some_iff] at h
    obtain ⟨⟨y, ids⟩, hs1, rfl⟩ := h
    refine ⟨.t _ _ (snapF_ok hs ren.hM1 5000 hs1 hr fun b hb => ren.hM2 b (hF b ?_)), by simp [imp1, own1]⟩
    simp only [fro1, hs1]
    exact hb
  · exact h.elim

theorem imp1_len {H : AH} {r v : AV} {n : Nat} (h : (imp1 n r).2 = (own1 r v).map (fun b => (H.getD b .dead).re)) : (imp1 n r).2.length = (own1 r v).length := by rw [h]; simp

theorem packPL_ok {w : World} {c : Cx} {H : AH} {B n : Nat} {I : List Nat} {c' : Cx} {H' : AH} (hs : HS w c H B) (ren : Ren w c H n I c' H') : ∀ {rs vs : List AV} {us : List Value} {k : Nat}, packPL H rs vs → vs.length = us.length → (∀ (i : Nat) x u, vs[i]? = some x → us[i]? = some u → RA w c H x u) →
    (∀ (j : Nat) b, (ownL rs vs)[j]? = some b → I[k + j]? = some b) → (∀ b ∈ froL H rs vs, b ∉ I) →
    (impL (n + k) rs).1.length = us.length ∧ (∀ (i : Nat) x u, (impL (n + k) rs).1[i]? = some x → us[i]? = some u → RA w c' H' x u) ∧ (impL (n + k) rs).2 = (ownL rs vs).map (fun b => (H.getD b .dead).re)
  | [], [], us, k, h, hl, hr, hI, hF => ⟨by simpa [impL] using hl, by simp [impL], rfl⟩
  | r :: rs, v :: vs, [], k, h, hl, hr, hI, hF => by simp at hl
  | r :: rs, v :: vs, u :: us, k, h, hl, hr, hI, hF => by
    obtain ⟨h1, h2⟩ := packP1_ok (k := k) hs ren h.1 (hr 0 v u rfl rfl) (fun j b hj => hI j b (by rw [ownL, List.getElem?_append_left (lt_of_getElem? hj)]; exact hj)) (fun b hb => hF b (by simp [froL, hb]))
    have hlen := imp1_len h2
    obtain ⟨h3, h4, h5⟩ := packPL_ok (k := k + (imp1 (n + k) r).2.length) hs ren h.2 (us := us) (by simpa using hl) (fun i x q hi hq => hr (i + 1) x q hi hq) (fun j b hj => by
      have := hI ((own1 r v).length + j) b (by rw [ownL, List.getElem?_append_right (by omega)]; simpa using hj)
      rw [hlen, Nat.add_assoc]; exact this) (fun b hb => hF b (by simp [froL, hb]))
    refine ⟨?_, fun i x q hi hq => ?_, ?_⟩
    · simp only [impL, List.length_cons]; rw [Nat.add_assoc]; omega
    · simp only [impL] at hi
      cases i with
      | zero => simp at hi hq; subst hi hq; exact h1
      | succ i => simp at hi hq; rw [Nat.add_assoc] at hi; exact h4 i x q hi hq
    · simp only [impL, ownL, List.map_append]
      rw [Nat.add_assoc, h5, h2]

theorem RA.aggs {w c H} {rs : List AV} {vs : Array Value} (hl : rs.length = vs.toList.length) (h1 : rs.all AV.one = true) (hr : ∀ (i : Nat) x u, rs[i]? = some x → vs.toList[i]? = some u → RA w c H x u) : RA w c H (.agg rs) (.agg vs) := by
  rw [List.all_eq_true] at h1
  exact .agg rs vs (by simpa using hl) (fun i x hi => h1 x (List.mem_of_getElem? hi)) (fun i x v hi hv => hr i x v hi (by simpa using hv))

theorem imp1_one {n : Nat} {r : AV} (h : r.one = true) : (imp1 n r).1.one = true := by cases r <;> first | exact h | rfl | (simp [AV.one] at h)

theorem impL_one : ∀ {rs : List AV} {n : Nat}, rs.all AV.one = true → (impL n rs).1.all AV.one = true
  | [], n, _ => rfl
  | r :: rs, n, h => by
    simp only [List.all_cons, Bool.and_eq_true] at h
    simp only [impL, List.all_cons, imp1_one h.1, impL_one h.2, Bool.and_self]

theorem packP2_ok {w : World} {c : Cx} {H : AH} {B n k : Nat} {I : List Nat} {c' : Cx} {H' : AH} (hs : HS w c H B) (ren : Ren w c H n I c' H') {r v : AV} {u : Value} (h : packP2 H r v) (hr : RA w c H v u)
    (hI : ∀ (j : Nat) b, (own2 r v)[j]? = some b → I[k + j]? = some b) (hF : ∀ b ∈ fro2 H r v, b ∉ I) :
    RA w c' H' (imp2 (n + k) r).1 u ∧ (imp2 (n + k) r).2 = (own2 r v).map (fun b => (H.getD b .dead).re) := by
  unfold packP2 at h
  split at h
  · rename_i rs vs
    cases hr with | agg _ us hl h1 hrr =>
    obtain ⟨a1, a2, a3⟩ := packPL_ok (k := k) hs ren h.1 (us := us.toList) (by simpa using hl) (fun i x q hi hq => hrr i x q hi (by simpa using hq)) hI hF
    exact ⟨RA.aggs a1 (impL_one h.2) a2, a3⟩
  · rename_i hne
    have e1 : own2 r v = own1 r v := by unfold own2; split <;> first | rfl | exact (hne _ _ rfl rfl).elim
    have e2 : fro2 H r v = fro1 H r v := by unfold fro2; split <;> first | rfl | exact (hne _ _ rfl rfl).elim
    have e3 : ∀ m, imp2 m r = imp1 m r := by
      intro m
      cases r <;> first | rfl | skip
      simp only [packP1] at h
    rw [e1] at hI ⊢
    rw [e2] at hF
    rw [e3]
    exact packP1_ok hs ren h hr hI hF

theorem packPL2_ok {w : World} {c : Cx} {H : AH} {B n : Nat} {I : List Nat} {c' : Cx} {H' : AH} (hs : HS w c H B) (ren : Ren w c H n I c' H') : ∀ {rs vs : List AV} {us : List Value} {k : Nat}, packPL2 H rs vs → vs.length = us.length → (∀ (i : Nat) x u, vs[i]? = some x → us[i]? = some u → RA w c H x u) →
    (∀ (j : Nat) b, (ownL2 rs vs)[j]? = some b → I[k + j]? = some b) → (∀ b ∈ froL2 H rs vs, b ∉ I) →
    (impL2 (n + k) rs).1.length = us.length ∧ (∀ (i : Nat) x u, (impL2 (n + k) rs).1[i]? = some x → us[i]? = some u → RA w c' H' x u) ∧ (impL2 (n + k) rs).2 = (ownL2 rs vs).map (fun b => (H.getD b .dead).re)
  | [], [], us, k, h, hl, hr, hI, hF => ⟨by simpa [impL2] using hl, by simp [impL2], rfl⟩
  | r :: rs, v :: vs, [], k, h, hl, hr, hI, hF => by simp at hl
  | r :: rs, v :: vs, u :: us, k, h, hl, hr, hI, hF => by
    obtain ⟨h1, h2⟩ := packP2_ok (k := k) hs ren h.1 (hr 0 v u rfl rfl) (fun j b hj => hI j b (by rw [ownL2, List.getElem?_append_left (lt_of_getElem? hj)]; exact hj)) (fun b hb => hF b (by simp [froL2, hb]))
    have hlen : (imp2 (n + k) r).2.length = (own2 r v).length := by rw [h2]; simp
    obtain ⟨h3, h4, h5⟩ := packPL2_ok (k := k + (imp2 (n + k) r).2.length) hs ren h.2 (us := us) (by simpa using hl) (fun i x q hi hq => hr (i + 1) x q hi hq) (fun j b hj => by
      have := hI ((own2 r v).length + j) b (by rw [ownL2, List.getElem?_append_right (by omega)]; simpa using hj)
      rw [hlen, Nat.add_assoc]; exact this) (fun b hb => hF b (by simp [froL2, hb]))
    refine ⟨?_, fun i x q hi hq => ?_, ?_⟩
    · simp only [impL2, List.length_cons]; rw [Nat.add_assoc]; omega
    · simp only [impL2] at hi
      cases i with
      | zero => simp at hi hq; subst hi hq; exact h1
      | succ i => simp at hi hq; rw [Nat.add_assoc] at hi; exact h4 i x q hi hq
    · simp only [impL2, ownL2, List.map_append]
      rw [Nat.add_assoc, h5, h2]

theorem packP_ok {w : World} {c : Cx} {H : AH} {B n : Nat} {I : List Nat} {c' : Cx} {H' : AH} (hs : HS w c H B) (ren : Ren w c H n I c' H') {r v : AV} {u : Value} (h : packP H r v) (hr : RA w c H v u)
    (hI : owns r v = I) (hF : ∀ b ∈ fros H r v, b ∉ I) :
    RA w c' H' (imp n r).1 u ∧ (imp n r).2 = I.map (fun b => (H.getD b .dead).re) := by
  unfold packP at h
  split at h
  · rename_i rs vs
    cases hr with | tup _ us hl hrr =>
    obtain ⟨a1, a2, a3⟩ := packPL2_ok (k := 0) hs ren h (us := us.toList) (by simpa using hl) (fun i x q hi hq => hrr i x q hi (by simpa using hq)) (fun j b hj => by rw [← hI, Nat.zero_add]; exact hj) hF
    rw [← hI]
    exact ⟨.tup _ _ (by simpa using a1) (fun i x v hi hv => a2 i x v hi (by simpa using hv)), a3⟩
  · rename_i hne
    have e1 : owns r v = own2 r v := by unfold owns; split <;> first | rfl | exact (hne _ _ rfl rfl).elim
    have e2 : fros H r v = fro2 H r v := by unfold fros; split <;> first | rfl | exact (hne _ _ rfl rfl).elim
    have e3 : ∀ m, imp m r = imp2 m r := by
      intro m
      cases r <;> first | rfl | skip
      simp only [packP2, packP1] at h
    rw [e1] at hI
    rw [e2] at hF
    rw [e3, ← hI]
    exact packP2_ok (k := 0) hs ren h hr (fun j b hj => by rw [← hI, Nat.zero_add]; exact hj) hF

/-- What a function's end hands back, as its caller takes it. -/
theorem pack_out {w w' : World} {F : Nat → Prop} {c' : Cx} {r r' : AV} {H' : AH} {v : Value} (n : Nat) (hF : ∀ cb, F cb → cb < w.heap.size) (hra : RA w' c' H' r' v) (hs : HS w' c' H' w.heap.size) (ev : Ev w ⟨F, fun _ => none⟩ [] w' c' H') (hbel : Below w.heap.size w w') (h : Pack r r' H') :
    ∃ v' G, Ending.returned v = .returned v' ∧ Below w.heap.size w w' ∧ (∀ b cb, G b = some cb → n ≤ b) ∧
      RA w' ⟨F, G⟩ (List.replicate n .dead ++ (imp n r).2) (imp n r).1 v' ∧ HS w' ⟨F, G⟩ (List.replicate n .dead ++ (imp n r).2) w.heap.size := by
  obtain ⟨hp, hap⟩ := h
  simp only [apartB, Bool.and_eq_true, decide_eq_true_eq, List.all_eq_true] at hap
  obtain ⟨hnd, hdis⟩ := hap
  let I := owns r r'
  let G : Nat → Option Nat := fun b => if b < n then none else I[b - n]?.bind c'.G
  let Hn : AH := List.replicate n .dead ++ I.map (fun b => (H'.getD b .dead).re)
  have hGI : ∀ b cb, G b = some cb → n ≤ b ∧ ∃ b', I[b - n]? = some b' ∧ c'.G b' = some cb := by
    intro b cb hg
    simp only [G] at hg
    split at hg
    · cases hg
    · rename_i hge
      rw [Option.bind_eq_some_iff] at hg
      obtain ⟨b', h1, h2⟩ := hg
      exact ⟨by omega, b', h1, h2⟩
  have hget : ∀ (k : Nat) b, I[k]? = some b → Hn[n + k]? = some (H'.getD b .dead).re := by
    intro k b hk
    simp only [Hn]
    rw [List.getElem?_append_right (by simp)]
    simp [hk]
  have hback : ∀ b cb blk, G b = some cb → Hn[b]? = some blk → ∃ b' bk, I[b - n]? = some b' ∧ c'.G b' = some cb ∧ H'[b']? = some bk ∧ blk = bk.re := by
    intro b cb blk hg hb
    obtain ⟨h1, b', h2, h3⟩ := hGI b cb hg
    have := hget _ b' h2
    rw [show n + (b - n) = b by omega, hb] at this
    cases this
    have hlt := hs.dom b' cb h3
    exact ⟨b', H'[b'], h2, h3, List.getElem?_eq_getElem hlt, by simp [List.getD, hlt]⟩
  have ren : Ren w' c' H' n I ⟨F, G⟩ Hn := by
    refine ⟨?_, ?_, ?_⟩
    · rintro cb (hf | ⟨b, blk, hb, hlv, hg⟩)
      · exact .inl (by rw [ev.F]; exact hf)
      · obtain ⟨b', bk, h2, h3, h4, rfl⟩ := hback b cb blk hg hb
        exact .inr ⟨b', bk, h4, Blk.re_live hlv, h3⟩
    · rintro b hbI cb hg (hf | ⟨b2, blk, hb, hlv, hg2⟩)
      · have := hF cb hf; have := (hs.base b cb hg).1; omega
      · obtain ⟨b', bk, h2, h3, h4, _⟩ := hback b2 cb blk hg2 hb
        have := hs.inj b b' cb hg h3
        subst this
        exact hbI (List.mem_of_getElem? h2)
    · intro k b blk hk hb
      refine ⟨by rw [hget k b hk]; simp [List.getD, hb], ?_⟩
      simp only [G]
      rw [if_neg (by omega), show n + k - n = k by omega, hk]
      rfl
  have hdis' : ∀ b ∈ fros H' r r', b ∉ I := fun b hb hbI => by
    have := hdis b hbI
    simp at this
    exact this hb
  obtain ⟨ra, himp⟩ := packP_ok hs ren hp hra rfl hdis'
  have hHn : Hn = List.replicate n .dead ++ (imp n r).2 := by rw [himp]
  have hbel' : Below w.heap.size w w' := hbel
  refine ⟨v, G, rfl, hbel', fun b cb hg => (hGI b cb hg).1, by rw [← hHn]; exact ra, ?_⟩
  rw [← hHn]
  refine ⟨fun b b' cb h h' => ?_, fun b cb h => ?_, fun cb hf => ⟨Nat.lt_of_lt_of_le (hF cb hf) hbel'.size, fun b hg => by obtain ⟨h1, b1, h2, h3⟩ := hGI b cb hg; have := (hs.base b1 cb h3).1; have := hF cb hf; omega⟩, hs.hB, fun b cb h => ?_, fun b cb cells hb hg => ?_, fun b cb e s z g l hb hg => ?_, fun b cb s p hb hg => ?_⟩
  · obtain ⟨h1, b1, h2, h3⟩ := hGI b cb h
    obtain ⟨h4, b2, h5, h6⟩ := hGI b' cb h'
    have := hs.inj b1 b2 cb h3 h6
    subst this
    have := (List.getElem?_inj (i := b - n) (j := b' - n) (lt_of_getElem? h2) hnd).1 (h2.trans h5.symm)
    omega
  · obtain ⟨h1, b1, h2, h3⟩ := hGI b cb h
    exact hs.base b1 cb h3
  · obtain ⟨h1, b1, h2, h3⟩ := hGI b cb h
    have := lt_of_getElem? h2
    simp [Hn]; omega
  · have harr := imp_arr n r
    rw [List.all_eq_true] at harr
    obtain ⟨h1, b1, h2, h3⟩ := hGI b cb hg
    rw [hHn, List.getElem?_append_right (by simpa using h1)] at hb
    have := harr _ (List.mem_of_getElem? hb)
    simp [Blk.isTs] at this
  · have harr := imp_arr n r
    rw [List.all_eq_true] at harr
    obtain ⟨h1, b1, h2, h3⟩ := hGI b cb hg
    have hb' := hb
    rw [hHn, List.getElem?_append_right (by simpa using h1)] at hb'
    have hts := harr _ (List.mem_of_getElem? hb')
    obtain ⟨b', bk, h2, h3, h4, hre⟩ := hback b cb _ hg hb
    have : ∃ g', bk = .arr e s z g' l ∧ g = 0 := by
      cases bk with
      | arr e1 s1 z1 g1 l1 => simp [Blk.re] at hre; obtain ⟨rfl, rfl, rfl, hg0, rfl⟩ := hre; exact ⟨_, rfl, hg0⟩
      | box => simp [Blk.re] at hre
      | dead => simp [Blk.re] at hre
      | iter => simp [Blk.re] at hre
    obtain ⟨g', rfl, hg0⟩ := this
    obtain ⟨arr, cap, a1, a2, a3, a4, a5⟩ := hs.arr b' cb e s z g' l h4 h3
    cases l with
    | vs l => simp [Blk.isTs] at hts
    | ts l =>
      refine ⟨arr, cap, a1, a2, ⟨a3.1, by omega⟩, a4, Rowed.ts.2 fun i x hi => ⟨(Rowed.ts.1 a5 i x hi).1, fun j y hj => ?_⟩⟩
      obtain ⟨q, q1, q2, q3, q4⟩ := (Rowed.ts.1 a5 i x hi).2 j y hj
      exact ⟨q, q1, q2, q3.mono fun b _ hb => ⟨rfl, fun hm => hb (ren.hM1 b hm)⟩, q4⟩
  · have harr := imp_arr n r
    rw [List.all_eq_true] at harr
    obtain ⟨h1, b1, h2, h3⟩ := hGI b cb hg
    rw [hHn, List.getElem?_append_right (by simpa using h1)] at hb
    have := harr _ (List.mem_of_getElem? hb)
    simp [Blk.isTs] at this

/-- A function's contract, by a walk of its body. -/
theorem Runs.of_call {P : Program} {f : FuncId} {ts : List T} {r : AV} (h : CallS P f (ts.map .t) [] (Pack r)) (hn : noRef r = true) : Runs P f ts r := by
  refine ⟨hn, fun n F w vs hF hl hr => ?_⟩
  have hs0 : HS w ⟨F, fun _ => none⟩ [] w.heap.size := ⟨by simp, by simp, fun cb hf => ⟨hF cb hf, fun b hb => by cases hb⟩, Nat.le_refl _, by simp, by simp, by simp, by simp⟩
  have hM0 : ∀ cb, (Cx.mk F fun _ => none).M [] cb → F cb := by
    rintro cb (h | ⟨b, blk, hb, _⟩)
    · exact h
    · simp at hb
  refine (h w.heap.size ⟨F, fun _ => none⟩ w vs hs0 (by simpa using hl) (map_t fun i x v hi hv => (hr i x v hi hv).mono fun b _ hb => ⟨rfl, fun hm => hb (hM0 b hm)⟩)).mono ?_
  rintro e w' ⟨v, c', r', H', rfl, hra, hs, ev, hbel, hp⟩
  exact pack_out n hF hra hs ev hbel hp

end Go.Proofs.YthpkehhghcpolaaDoor

namespace Go.Proofs.YthpkehhghcpolaaDoor
set_option linter.unusedVariables false

/-- What the second tells, the first tells too. -/
def Agree (env : List (Nat × AV)) : List (Nat × AV) → Prop
  | [] => True
  | (t, v) :: r => lk env t = v ∧ Agree env r

theorem agree_lk {env : List (Nat × AV)} : ∀ {env' : List (Nat × AV)}, Agree env env' → ∀ t, lk env' t = .junk ∨ lk env' t = lk env t
  | [], _, t => .inl rfl
  | (d, v) :: r, h, t => by
    rw [lk_cons]
    by_cases e : d = t
    · rw [if_pos e, ← e, h.1]; exact .inr rfl
    · rw [if_neg e]; exact agree_lk h.2 t

theorem weak_of {k0 : Nat} {s s' : St} (h : Agree s.env s'.env) (hH : s.H = s'.H) : Weak k0 s s' := by
  intro O c a w _ hs
  refine ⟨c, fun t => ?_, hH ▸ hs.hs, hs.size, hs.defers, hH ▸ hs.ev, hs.below⟩
  rw [← hH]
  rcases agree_lk h t with e | e
  · rw [e]; exact .junk _
  · rw [e]; exact hs.env t

theorem Weak.refl {k0 : Nat} (s : St) : Weak k0 s s := fun O c a w _ hs => ⟨c, hs⟩

theorem Weak.trans {k0 : Nat} {s1 s2 s3 : St} (h : Weak k0 s1 s2) (h2 : Weak k0 s2 s3) : Weak k0 s1 s3 := fun O c a w hk hs => by
  obtain ⟨c', hs'⟩ := h O c a w hk hs
  exact h2 O c' a w hk hs'

/-- The same with a condition. -/
theorem loop_on {k0 : Nat} {body : (Ex → St → Prop) → St → Prop} {Q : Ex → St → Prop} {s : St} {A : Type} (I : A → Prop) (S : A → St) (μ : A → Nat) (i : A) (hi : I i)
    (h0 : Weak k0 s (S i)) (h : ∀ i, I i → body (fun e s' => match e with | .normal => ∃ j : {a // I a}, Weak k0 s' (S j.1) ∧ μ j.1 < μ i | e => Q e s') (S i)) : LoopU k0 body Q s :=
  ⟨0, {a : A // I a}, fun a => S a.1, fun a => μ a.1, ⟨i, hi⟩, h0, fun ⟨i, hi⟩ => h i hi⟩

end Go.Proofs.YthpkehhghcpolaaDoor

namespace Go.Proofs.YthpkehhghcpolaaDoor
open Go.RowKit
set_option linter.unusedVariables false

/-- All blocks that are named have numbers from n on; all data is without memory. -/
inductive GF (n : Nat) : AV → Prop
  | t (x) (h : flatT x = true) : GF n (.t x)
  | sl (b g i l) (h : n ≤ b) : GF n (.sl b g i l)
  | agg (cs) (h : ∀ (i : Nat) x, cs[i]? = some x → GF n x) : GF n (.agg cs)
  | tup (cs) (h : ∀ (i : Nat) x, cs[i]? = some x → GF n x) : GF n (.tup cs)
  | junk : GF n .junk

theorem GF.le {n m : Nat} (hnm : m ≤ n) {x : AV} (h : GF n x) : GF m x := by
  induction h with
  | t x h => exact .t x h
  | sl b g i l h => exact .sl b g i l (by omega)
  | agg cs _ ih => exact .agg cs ih
  | tup cs _ ih => exact .tup cs ih
  | junk => exact .junk

def FlatB : Blk → Prop
  | .arr _ _ _ _ (.ts l) => ∀ x ∈ l, flatT x = true
  | _ => False

theorem imp1_gf {n : Nat} {x : AV} (h : Flat1 x) : GF n (imp1 n x).1 ∧ ∀ b ∈ (imp1 n x).2, FlatB b := by
  cases x with
  | t x => exact ⟨.t _ h, by simp [imp1]⟩
  | own e s z l => exact ⟨.sl _ _ _ _ (Nat.le_refl _), by simp only [imp1, List.mem_singleton]; rintro b rfl; exact h⟩
  | junk => exact ⟨.junk, by simp [imp1]⟩
  | _ => exact h.elim

theorem impL_gf : ∀ {l : List AV} {n : Nat}, FlatL l → (∀ (i : Nat) x, (impL n l).1[i]? = some x → GF n x) ∧ ∀ b ∈ (impL n l).2, FlatB b
  | [], n, _ => by simp [impL]
  | a :: r, n, h => by
    obtain ⟨h1, h2⟩ := imp1_gf (n := n) h.1
    obtain ⟨h3, h4⟩ := impL_gf (l := r) (n := n + (imp1 n a).2.length) h.2
    refine ⟨fun i x hi => ?_, fun b hb => ?_⟩
    · simp only [impL] at hi
      cases i with
      | zero => simp at hi; subst hi; exact h1
      | succ i => simp at hi; exact (h3 i x hi).le (Nat.le_add_right _ _)
    · simp only [impL, List.mem_append] at hb
      exact hb.elim (h2 b) (h4 b)

theorem imp2_gf {n : Nat} {x : AV} (h : Flat2 x) : GF n (imp2 n x).1 ∧ ∀ b ∈ (imp2 n x).2, FlatB b := by
  cases x with
  | agg cs => obtain ⟨h1, h2⟩ := impL_gf (n := n) (show FlatL cs from h); exact ⟨.agg _ h1, h2⟩
  | _ => exact imp1_gf h

theorem impL2_gf : ∀ {l : List AV} {n : Nat}, FlatL2 l → (∀ (i : Nat) x, (impL2 n l).1[i]? = some x → GF n x) ∧ ∀ b ∈ (impL2 n l).2, FlatB b
  | [], n, _ => by simp [impL2]
  | a :: r, n, h => by
    obtain ⟨h1, h2⟩ := imp2_gf (n := n) h.1
    obtain ⟨h3, h4⟩ := impL2_gf (l := r) (n := n + (imp2 n a).2.length) h.2
    refine ⟨fun i x hi => ?_, fun b hb => ?_⟩
    · simp only [impL2] at hi
      cases i with
      | zero => simp at hi; subst hi; exact h1
      | succ i => simp at hi; exact (h3 i x hi).le (Nat.le_add_right _ _)
    · simp only [impL2, List.mem_append] at hb
      exact hb.elim (h2 b) (h4 b)

theorem imp_gf {n : Nat} {x : AV} (h : Flat x) : GF n (imp n x).1 ∧ ∀ b ∈ (imp n x).2, FlatB b := by
  cases x with
  | tup cs => obtain ⟨h1, h2⟩ := impL2_gf (n := n) (show FlatL2 cs from h); exact ⟨.tup _ h1, h2⟩
  | _ => exact imp2_gf h

theorem RA.shiftF {w : World} {c1 c2 : Cx} {H1 H2 : AH} {n : Nat} (hH : ∀ b, n ≤ b → H1[b]? = H2[b]?) (hG : ∀ b, n ≤ b → c1.G b = c2.G b)
    {x : AV} {v : Value} (h : RA w c1 H1 x v) (hx : GF n x) : RA w c2 H2 x v := by
  induction h with
  | t x v h => cases hx with | t _ hx => exact .t x v (flatT_rt h hx)
  | sl b g i len v blk hb hm hv =>
    cases hx with | sl _ _ _ _ hn =>
    refine .sl b g i len v blk (by rw [← hH b hn]; exact hb) ?_ hv
    cases blk with
    | dead => trivial
    | box => exact hm
    | iter => exact hm
    | arr => rw [← hG b hn]; exact hm
  | agg cs vs hl h1 _ ih => cases hx with | agg _ hx => exact .agg cs vs hl h1 fun i x v hi hv => ih i x v hi hv (hx i x hi)
  | tup cs vs hl _ ih => cases hx with | tup _ hx => exact .tup cs vs hl fun i x v hi hv => ih i x v hi hv (hx i x hi)
  | junk v => exact .junk v
  | _ => cases hx

/-- What a call is handed, as data. -/
def argsT (H : AH) (args : List AV) : Option (List T) := (snapL 32 H args).map Prod.fst

/-- A call that reads rows of the walk's own. -/
theorem CallS.snap {P : Program} {f : FuncId} {args : List AV} {ts : List T} {r : AV} {H : AH} {Q : AV → AH → Prop} (h : Runs P f ts r) (ha : argsT H args = some ts) (hf : Flat r) (k : Q (imp H.length r).1 (H ++ (imp H.length r).2)) :
    CallS P f args H Q := by
  intro B c w vs hs hl hr
  simp only [argsT, Option.map_eq_some_iff] at ha
  obtain ⟨⟨l, ids⟩, hsn, rfl⟩ := ha
  obtain ⟨hlen, hrt⟩ := snapL_ok hs (M' := fun _ => False) (fun _ h => h.elim) 32 hsn (vs := vs.toList) (by simpa using hl.symm) (fun i x v hi hv => hr i x v hi (by simpa using hv)) (fun _ _ _ _ h => h)
  refine (h.2 H.length (fun _ => False) w vs (fun cb h => h.elim) (by simp only; omega) (fun i t v hi hv => hrt i t v hi (by simpa using hv))).mono fun e w' ⟨v, G, he, hbel, hG, hra, hs'⟩ => ?_
  obtain ⟨g1, g2⟩ := imp_gf (n := H.length) hf
  obtain ⟨ev, hs2⟩ := join (Hb := (imp H.length r).2) hs hbel hG hs' (imp_arr _ _) (fun b e s z g l i x j y v hb hi hj hrt => by
    have := g2 _ (List.mem_of_getElem? hb) x (List.mem_of_getElem? hi)
    exact flat1_rt hrt (flatT_cells this j y hj))
  refine ⟨v, _, _, _, he, ?_, hs2, ev, hbel.mono hs.hB, k⟩
  exact hra.shiftF (n := H.length) (fun b hb => get_dead rfl hb) (fun b hb => by simp only [if_neg (Nat.not_lt.2 hb)]) g1

/-- What a contract says of the model, where a truth value comes back. -/
theorem Runs.calls {P : Program} {f : FuncId} {ts : List T} {b : Bool} (h : Runs P f ts (.t (.bool b))) (hen : Enters P f) {w : World} {vs : Array Value} (hl : vs.size = ts.length)
    (hr : ∀ (i : Nat) t v, ts[i]? = some t → vs[i]? = some v → RT w (fun _ => False) t v) : Calls P f vs w fun e w' => e = .returned (.bool b) ∧ Below w.heap.size w w' := by
  have key := h.2 0 (fun _ => False) w vs (fun _ h => h.elim) hl hr
  have key := key.mono (Q' := fun e w' => e = .returned (.bool b) ∧ Below w.heap.size w w') fun e w' ⟨v, G, he, hbel, hG, hra, hs⟩ => by
    obtain rfl := hra.bool
    exact ⟨he, hbel⟩
  rcases key with key | ⟨v, w', h1, _⟩
  · exact key.2
  · rw [run_callFunc hen] at h1
    cases h1

end Go.Proofs.YthpkehhghcpolaaDoor

namespace Go.Proofs.YthpkehhghcpolaaDoor
set_option linter.unusedVariables false
set_option linter.unusedSimpArgs false

/-- All that stands in the first stands in the second (what was given up doesn't count). -/
def Le (H H' : AH) : Prop := ∀ (b : Nat) blk, H[b]? = some blk → blk = .dead ∨ H'[b]? = some blk

theorem Le.refl (H : AH) : Le H H := fun _ _ h => .inr h
theorem Le.trans {H H' H'' : AH} (h : Le H H') (k : Le H' H'') : Le H H'' := fun b blk hb => (h b blk hb).elim .inl fun h => k b blk h
theorem Le.append (H X : AH) : Le H (H ++ X) := fun b blk hb => .inr (by rw [List.getElem?_append_left (lt_of_getElem? hb)]; exact hb)

/-- Memory without some blocks. -/
def hide : List Nat → AH → AH
  | [], H => H
  | b :: r, H => hide r (H.set b .dead)

theorem set_dead_get {H : AH} {b i : Nat} {blk : Blk} (h : H[i]? = some blk) : (H.set b .dead)[i]? = some (if i = b then .dead else blk) := by
  have := lt_of_getElem? h
  by_cases e : b = i
  · subst e; simp [this]
  · rw [List.getElem?_set_ne e, h, if_neg (fun h => e h.symm)]

theorem set_dead_back {H : AH} {b i : Nat} {blk : Blk} (h : (H.set b .dead)[i]? = some blk) : blk = .dead ∨ (i ≠ b ∧ H[i]? = some blk) := by
  by_cases e : b = i
  · subst e
    have hl := lt_of_getElem? h
    simp only [List.length_set] at hl
    simp [hl] at h
    exact .inl h.symm
  · rw [List.getElem?_set_ne e] at h
    exact .inr ⟨fun h => e h.symm, h⟩

theorem Le.hide_one (H : AH) (b : Nat) : Le (H.set b .dead) H := fun _ _ h => (set_dead_back h).imp id (·.2)

theorem Le.hide : ∀ (D : List Nat) (H : AH), Le (hide D H) H
  | [], H => .refl H
  | b :: r, H => (Le.hide r (H.set b .dead)).trans (.hide_one H b)

/-- All but some blocks stand as they did. -/
def LeX (D : List Nat) (H H' : AH) : Prop := Le (Go.Proofs.YthpkehhghcpolaaDoor.hide D H) H'

theorem hide_get : ∀ (D : List Nat) {H : AH} {i : Nat} {blk : Blk}, H[i]? = some blk → (hide D H)[i]? = some (if i ∈ D then .dead else blk)
  | [], H, i, blk, h => by simpa [hide] using h
  | b :: r, H, i, blk, h => by
    simp only [hide]
    rw [hide_get r (set_dead_get h)]
    by_cases e : i = b
    · subst e; simp
    · simp [e]

theorem hide_back : ∀ (D : List Nat) {H : AH} {i : Nat} {blk : Blk}, (hide D H)[i]? = some blk → blk = .dead ∨ (i ∉ D ∧ H[i]? = some blk)
  | [], H, i, blk, h => .inr ⟨by simp, h⟩
  | b :: r, H, i, blk, h => by
    simp only [hide] at h
    rcases hide_back r h with h | ⟨h1, h2⟩
    · exact .inl h
    · rcases set_dead_back h2 with h3 | ⟨h3, h4⟩
      · exact .inl h3
      · exact .inr ⟨by simp [h1, h3], h4⟩

theorem LeX.le {D : List Nat} {H H' : AH} (h : LeX D H H') : Le (Go.Proofs.YthpkehhghcpolaaDoor.hide D H) (Go.Proofs.YthpkehhghcpolaaDoor.hide D H') := fun b blk hb => by
  rcases hide_back D hb with e | ⟨hn, _⟩
  · exact .inl e
  · rcases h b blk hb with e | e
    · exact .inl e
    · have := hide_get D e
      rw [if_neg hn] at this
      exact .inr this

theorem LeX.refl (D : List Nat) (H : AH) : LeX D H H := .hide D H
theorem LeX.of {D : List Nat} {H H' : AH} (h : Le H H') : LeX D H H' := (Le.hide D H).trans h
theorem LeX.append (D : List Nat) (H X : AH) : LeX D H (H ++ X) := .of (.append H X)
theorem LeX.set {D : List Nat} {H : AH} {b : Nat} (blk : Blk) (hb : b ∈ D) : LeX D H (H.set b blk) := fun i bk h => by
  rcases hide_back D h with e | ⟨hn, h⟩
  · exact .inl e
  · exact .inr (by rw [List.getElem?_set_ne (fun e => hn (by rw [← e]; exact hb))]; exact h)

/-- A value as one of an interface's type. -/
def xifc (tab : Tab) (t : TypeId) (x : AV) (K : AV → Prop) : Prop :=
  Opt (tab t) fun y => Ck (match y.d with | .interface _ => false | _ => true)
    (match x with | .t v => K (.t (.ifc t v)) | v => K (.ifc t v))

/-- An operation that only reads. -/
def xread (tab : Tab) (o : Oper) (env : List (Nat × AV)) (H : AH) (K : AV → Prop) : Prop :=
  match o.op with
  | .move x => K (opd env x)
  | .pick c a b => xpick (opd env c) (opd env a) (opd env b) K
  | .build t parts => xbuild tab t (parts.toList.map fun p => (p.1, opd env p.2)) K
  | .load t a => xload tab t H (opd env a) K
  | .nilCheck x => xnilCheck H (opd env x) K
  | .binOp op t x y _ => xbin tab op t H (opd env x) (opd env y) (isConst y) fun v => K (.t v)
  | .unOp op _ x => xun tab.stop op (opd env x) fun v => K (.t v)
  | .convert s d x => xconvert tab s d (opd env x) H K
  | .slice t x lo hi mx => xslice tab t H (opd env x) (lo.map (opd env)) (hi.map (opd env)) (mx.map (opd env)) K
  | .fieldAddr t x k => xfieldAddr tab t H (opd env x) k K
  | .field t x k => xfield tab t (opd env x) k K
  | .indexAddr t x i => xindexAddr tab t H (opd env x) (opd env i) K
  | .index t x i => xindex tab t (opd env x) (opd env i) K
  | .extract x i => xextract (opd env x) i K
  | .makeInterface t x => xifc tab t (opd env x) K
  | .makeFunc f first captured => K (.fn f (first.toList.map (opd env)) (captured.toList.map (opd env)))
  | .call c =>
    (match c.callee with
    | .builtin b =>
      (match b, c.argTypes.toList, c.args.toList with
      | .len, [t], [x] => xlen tab t H (opd env x) K
      | .min, _, [x, y] => xminmax false (opd env x) (opd env y) K
      | .max, _, [x, y] => xminmax true (opd env x) (opd env y) K
      | _, _, _ => False)
    | _ => False)
  | _ => False

theorem xread_op {tab : Tab} {call : CallP} {o : Oper} {env : List (Nat × AV)} {H : AH} {K : AV → AH → Prop} (h : xread tab o env H fun v => K v H) : xop tab call o env H K := by
  unfold xread at h
  unfold xop
  generalize o.op = p at h ⊢
  cases p <;> first | exact h | exact h.elim | skip
  rename_i c
  simp only at h ⊢
  unfold xcall
  generalize c.callee = cc at h ⊢
  cases cc <;> first | exact h.elim | skip
  rename_i b
  simp only at h ⊢
  split at h
  · rename_i h1 h2; simp only [h1, h2]; exact h
  · rename_i h2; simp only [h2]; exact h
  · rename_i h2; simp only [h2]; exact h
  · exact h.elim

section
variable {tab : Tab} {H H' : AH}

theorem lenA_le (hl : Le H H') {x : AV} {n : Nat} (h : lenA H x = some n) : lenA H' x = some n := by
  cases x <;> first | exact h | skip
  · rename_i m; cases m <;> exact h
  rename_i b g i m
  cases hb : H[b]? with
  | none => simp [lenA, hb] at h
  | some blk =>
    rcases hl b blk hb with e | this
    · subst e; simp [lenA, hb, ck_iff] at h
    · simp only [lenA, hb, this] at h ⊢; exact h

theorem isNil_le (hl : Le H H') {x : AV} {n : Bool} (h : isNil H x = some n) : isNil H' x = some n := by
  cases x <;> first | exact h | skip
  · rename_i m; cases m <;> exact h
  all_goals
    rename_i b g i m
    cases hb : H[b]? with
    | none => simp [isNil, hb] at h
    | some blk =>
      rcases hl b blk hb with e | this
      · subst e; simp [isNil, hb, ck_iff] at h
      · simp only [isNil, hb, this] at h ⊢; exact h

theorem xload_le (hl : Le H H') {ty : TypeId} {a : AV} {K : AV → Prop} (h : xload tab ty H a K) : xload tab ty H' a K := by
  unfold xload at h ⊢
  rw [opt_iff] at h ⊢
  obtain ⟨y, hy, h⟩ := h
  refine ⟨y, hy, ?_⟩
  cases a <;> first | exact h | exact h.elim | skip
  · rename_i m; cases m <;> first | exact h | exact h.elim
  rename_i b g i m
  cases hb : H[b]? with
  | none => simp [hb] at h
  | some blk =>
    rcases hl b blk hb with e | this
    · subst e; simp [hb, ck_iff] at h
    · simp only [hb, this] at h ⊢; exact h

theorem xnilCheck_le (hl : Le H H') {a : AV} {K : AV → Prop} (h : xnilCheck H a K) : xnilCheck H' a K := by
  cases a <;> first | exact h | exact h.elim | skip
  · rename_i m; cases m <;> first | exact h | exact h.elim | skip
    rename_i f _ _; cases f <;> first | exact h | exact h.elim
  · rename_i b g i m
    unfold xnilCheck at h ⊢
    cases hb : H[b]? with
    | none => simp [hb] at h
    | some blk =>
      rcases hl b blk hb with e | this
      · subst e; simp [hb, ck_iff] at h
      · simp only [hb, this] at h ⊢; exact h
  · rename_i f _ _; cases f <;> first | exact h | exact h.elim

theorem xlen_le (hl : Le H H') {ty : TypeId} {a : AV} {K : AV → Prop} (h : xlen tab ty H a K) : xlen tab ty H' a K := by
  unfold xlen at h ⊢
  rw [opt_iff] at h ⊢
  obtain ⟨y, hy, h⟩ := h
  refine ⟨y, hy, ?_⟩
  split at h
  · exact h
  · rw [ck_iff, opt_iff] at h ⊢
    obtain ⟨h1, n, h2, h3⟩ := h
    exact ⟨h1, n, lenA_le hl h2, h3⟩

theorem xfieldAddr_le (hl : Le H H') {ty : TypeId} {a : AV} {k : Nat} {K : AV → Prop} (h : xfieldAddr tab ty H a k K) : xfieldAddr tab ty H' a k K := by
  unfold xfieldAddr at h ⊢
  simp only [opt_iff, ck_iff] at h ⊢
  obtain ⟨y, hy, f, hf, z, hz, hk, h⟩ := h
  refine ⟨y, hy, f, hf, z, hz, hk, ?_⟩
  cases a <;> first | exact h | exact h.elim | skip
  · rename_i m; cases m <;> first | exact h | exact h.elim
  rename_i b g i m
  cases hb : H[b]? with
  | none => simp [hb] at h
  | some blk =>
    rcases hl b blk hb with e | this
    · subst e; simp [hb, ck_iff] at h
    · simp only [hb, this] at h ⊢; exact h

theorem xindexAddr_le (hl : Le H H') {ty : TypeId} {a ix : AV} {K : AV → Prop} (h : xindexAddr tab ty H a ix K) : xindexAddr tab ty H' a ix K := by
  unfold xindexAddr at h ⊢
  rw [opt_iff] at h ⊢
  obtain ⟨y, hy, h⟩ := h
  refine ⟨y, hy, ?_⟩
  split at h
  · rename_i k i
    cases hd : y.d <;> rw [hd] at h <;> first | exact h.elim | skip
    all_goals cases a <;> first | exact h | exact h.elim | skip
    all_goals try (rename_i m; cases m <;> first | exact h | exact h.elim; done)
    all_goals
      rename_i b g i m
      simp only [opt_iff] at h ⊢
      obtain ⟨z, hz, h⟩ := h
      refine ⟨z, hz, ?_⟩
      cases hb : H[b]? with
      | none => simp [hb, ck_iff] at h
      | some blk =>
        rcases hl b blk hb with e | this
        · subst e; simp [hb, ck_iff] at h
        · simp only [hb, this] at h ⊢; exact h
  · exact h.elim

theorem xslice_le (hl : Le H H') {ty : TypeId} {a : AV} {lo hi mx : Option AV} {K : AV → Prop} (h : xslice tab ty H a lo hi mx K) : xslice tab ty H' a lo hi mx K := by
  unfold xslice at h ⊢
  rw [opt_iff] at h ⊢
  obtain ⟨y, hy, h⟩ := h
  refine ⟨y, hy, ?_⟩
  split at h
  · split at h
    · rw [opt_iff] at h ⊢
      obtain ⟨z, hz, h⟩ := h
      refine ⟨z, hz, ?_⟩
      cases a <;> first | exact h | exact h.elim | skip
      · rename_i m; cases m <;> first | exact h | exact h.elim
      rename_i b g i m
      cases hb : H[b]? with
      | none => simp [hb] at h
      | some blk =>
        rcases hl b blk hb with e | this
        · subst e; simp [hb, ck_iff] at h
        · simp only [hb, this] at h ⊢; exact h
    · exact h.elim
  · split at h <;> first | exact h | exact h.elim | skip
    rename_i b g i m _
    simp only [opt_iff] at h ⊢
    obtain ⟨z, hz, h⟩ := h
    refine ⟨z, hz, ?_⟩
    cases hb : H[b]? with
    | none => simp [hb] at h
    | some blk =>
      rcases hl b blk hb with e | this
      · subst e; simp [hb, ck_iff] at h
      · simp only [hb, this] at h ⊢; exact h

theorem xeq_le (hl : Le H H') {ty : TypeId} {x y : AV} {yc : Bool} {K : Bool → Prop} (h : xeq tab ty H x y yc K) : xeq tab ty H' x y yc K := by
  unfold xeq at h ⊢
  rw [opt_iff] at h ⊢
  obtain ⟨i, hi, h⟩ := h
  refine ⟨i, hi, ?_⟩
  split at h
  · exact h
  · exact h
  · simp only [ck_iff, opt_iff] at h ⊢
    obtain ⟨h1, n, h2, h3⟩ := h
    exact ⟨h1, n, isNil_le hl h2, h3⟩

theorem xbin_le (hl : Le H H') {op : BinOp} {ty : TypeId} {x y : AV} {yc : Bool} {K : T → Prop} (h : xbin tab op ty H x y yc K) : xbin tab op ty H' x y yc K := by
  unfold xbin at h ⊢
  split at h
  · exact h
  · exact h
  · split at h
    · exact xeq_le hl h
    · exact xeq_le hl h
    · exact h.elim

theorem xconvert_le (hl : Le H H') {s d : TypeId} {x : AV} {K : AV → Prop} (h : xconvert tab s d x H K) : xconvert tab s d x H' K := by
  unfold xconvert at h ⊢
  simp only [opt_iff] at h ⊢
  obtain ⟨y, hy, z, hz, h⟩ := h
  refine ⟨y, hy, z, hz, ?_⟩
  split at h <;> first | exact h | exact h.elim | skip
  rename_i b g i n _
  split at h <;> first | exact h.elim | skip
  obtain ⟨q, hq, h⟩ := h
  refine ⟨q, hq, ?_⟩
  split at h <;> first | exact h.elim | skip
  cases hb : H[b]? with
  | none => simp [hb] at h
  | some blk =>
    rcases hl b blk hb with e | this
    · subst e; simp [hb, ck_iff] at h
    · simp only [hb, this] at h ⊢; exact h

theorem parts_env {env env' : List (Nat × AV)} : ∀ {ps : List (Nat × Operand)}, (∀ x ∈ ps.map (·.2), opd env x = opd env' x) → ps.map (fun p => (p.1, opd env p.2)) = ps.map fun p => (p.1, opd env' p.2)
  | [], _ => rfl
  | p :: r, h => by
    simp only [List.map_cons, List.mem_cons, forall_eq_or_imp] at h ⊢
    rw [h.1, parts_env h.2]

theorem map_env {env env' : List (Nat × AV)} {o : Option Operand} (h : ∀ x ∈ o.toList, opd env x = opd env' x) : o.map (opd env) = o.map (opd env') := by
  cases o with
  | none => rfl
  | some x => simp at h; simp [h]

/-- With the same operands, and with more memory, the same is read. -/
theorem xread_le (hl : Le H H') {o : Oper} {env env' : List (Nat × AV)} {K : AV → Prop} (he : ∀ x ∈ o.op.operands.toList, opd env x = opd env' x) (h : xread tab o env H K) : xread tab o env' H' K := by
  unfold xread at h ⊢
  generalize o.op = p at h he ⊢
  cases p <;> simp only at h ⊢ <;> first | exact h.elim | skip
  case move x => rw [← he x (by simp [Op.operands])]; exact h
  case pick c a b => rw [← he c (by simp [Op.operands]), ← he a (by simp [Op.operands]), ← he b (by simp [Op.operands])]; exact h
  case build t ps => rw [← parts_env (env := env) (fun x hx => he x (by simpa [Op.operands] using hx))]; exact h
  case load t a => rw [← he a (by simp [Op.operands])]; exact xload_le hl h
  case nilCheck x => rw [← he x (by simp [Op.operands])]; exact xnilCheck_le hl h
  case binOp op t x y t2 => rw [← he x (by simp [Op.operands]), ← he y (by simp [Op.operands])]; exact xbin_le hl h
  case unOp op t x => rw [← he x (by simp [Op.operands])]; exact h
  case convert t u x => rw [← he x (by simp [Op.operands])]; exact xconvert_le hl h
  case slice t x lo hi mx =>
    rw [← he x (by simp [Op.operands]), ← map_env (env := env) (o := lo) (fun x hx => he x (by simp [Op.operands] at hx ⊢; simp [hx])), ← map_env (env := env) (o := hi) (fun x hx => he x (by simp [Op.operands] at hx ⊢; simp [hx])),
      ← map_env (env := env) (o := mx) (fun x hx => he x (by simp [Op.operands] at hx ⊢; simp [hx]))]
    exact xslice_le hl h
  case fieldAddr t x k => rw [← he x (by simp [Op.operands])]; exact xfieldAddr_le hl h
  case field t x k => rw [← he x (by simp [Op.operands])]; exact h
  case indexAddr t x i => rw [← he x (by simp [Op.operands]), ← he i (by simp [Op.operands])]; exact xindexAddr_le hl h
  case index t x i => rw [← he x (by simp [Op.operands]), ← he i (by simp [Op.operands])]; exact h
  case extract x i => rw [← he x (by simp [Op.operands])]; exact h
  case makeInterface t x => rw [← he x (by simp [Op.operands])]; exact h
  case makeFunc f a b =>
    have e1 : a.toList.map (opd env) = a.toList.map (opd env') := List.map_congr_left fun x hx => he x (by simp [Op.operands] at hx ⊢; simp [hx])
    have e2 : b.toList.map (opd env) = b.toList.map (opd env') := List.map_congr_left fun x hx => he x (by simp [Op.operands] at hx ⊢; simp [hx])
    rw [← e1, ← e2]; exact h
  case call c =>
    generalize hc : c.callee = cc at h ⊢
    cases cc <;> simp only at h ⊢ <;> first | exact h.elim | skip
    rename_i b
    have ha : ∀ x ∈ c.args.toList, opd env x = opd env' x := fun x hx => he x (by simp [Op.operands, Call.operands, hc] at hx ⊢; simp [hx])
    split at h
    · rename_i h1 h2
      try simp only [h1, h2]
      rw [← ha _ (by rw [h2]; simp)]
      exact xlen_le hl h
    · rename_i h2
      try simp only [h2]
      rw [← ha _ (by rw [h2]; simp), ← ha _ (by rw [h2]; simp)]
      exact h
    · rename_i h2
      try simp only [h2]
      rw [← ha _ (by rw [h2]; simp), ← ha _ (by rw [h2]; simp)]
      exact h
    · exact h.elim

end
end Go.Proofs.YthpkehhghcpolaaDoor

namespace Go.Proofs.YthpkehhghcpolaaDoor
set_option linter.unusedVariables false
set_option linter.unusedSimpArgs false

structure Det {α : Type} (f : (α → Prop) → Prop) : Prop where
  mono : ∀ {K K' : α → Prop}, (∀ a, K a → K' a) → f K → f K'
  ex : ∀ {K : α → Prop}, f K → ∃ a, f (fun x => x = a) ∧ K a

section
variable {α β : Type}

theorem d_ret (x : α) : Det fun K => K x := ⟨fun h k => h _ k, fun h => ⟨x, rfl, h⟩⟩
theorem d_false : Det fun K : α → Prop => False := ⟨fun _ h => h, fun h => h.elim⟩
theorem d_ck {c : Bool} {f : (α → Prop) → Prop} (h : Det f) : Det fun K => Ck c (f K) := by
  cases c
  · exact d_false
  · exact h
theorem d_br {c : Bool} {f g : (α → Prop) → Prop} (h : Det f) (k : Det g) : Det fun K => Br c (f K) (g K) := by
  cases c
  · exact k
  · exact h
theorem d_opt {o : Option β} {f : β → (α → Prop) → Prop} (h : ∀ a, Det (f a)) : Det fun K => Opt o fun a => f a K := by
  cases o
  · exact d_false
  · exact h _
theorem d_and {p : Prop} {f : (α → Prop) → Prop} (h : Det f) : Det fun K => p ∧ f K :=
  ⟨fun hk k => ⟨k.1, h.mono hk k.2⟩, fun k => by obtain ⟨a, h1, h2⟩ := h.ex k.2; exact ⟨a, ⟨k.1, h1⟩, h2⟩⟩
theorem d_bind {f : (β → Prop) → Prop} {g : β → (α → Prop) → Prop} (h : Det f) (k : ∀ b, Det (g b)) : Det fun K => f fun b => g b K :=
  ⟨fun hk q => h.mono (fun b r => (k b).mono hk r) q, fun q => by
    obtain ⟨b, h1, h2⟩ := h.ex q
    obtain ⟨a, h3, h4⟩ := (k b).ex h2
    exact ⟨a, h.mono (fun x e => by subst e; exact h3) h1, h4⟩⟩
theorem d_map {f : (β → Prop) → Prop} (g : β → α) (h : Det f) : Det fun K => f fun b => K (g b) := d_bind h fun b => d_ret (g b)
/-- Bytes whose numbers are those of a list: there is but one list of bytes. -/
theorem d_bytes {l : List T} {g : List UInt8 → α} : Det fun K => ∃ bs : List UInt8, l = bs.map (fun b => T.int .u8 (b.toNat : Int)) ∧ K (g bs) :=
  ⟨fun hk ⟨bs, h1, h2⟩ => ⟨bs, h1, hk _ h2⟩, fun ⟨bs, h1, h2⟩ => ⟨g bs, ⟨bs, h1, rfl⟩, h2⟩⟩
end

section
variable {tab : Tab} {H : AH}

theorem d_partT {y : TyI} {cells : List T} {o : Nat} : Det (partT y cells o) := by
  unfold partT
  cases y.isAgg
  · exact d_opt fun a => d_ret a
  · exact d_ck (d_ret _)

theorem d_partA {y : TyI} {cells : List AV} {o : Nat} : Det (partA y cells o) := by
  unfold partA
  cases y.isAgg
  · exact d_opt fun a => d_ret a
  · exact d_ck (d_ret _)

theorem d_load {ty : TypeId} {a : AV} : Det (xload tab ty H a) := by
  unfold xload
  refine d_opt fun y => ?_
  cases a <;> first | exact d_false | skip
  · rename_i m; cases m <;> first | exact d_false | exact d_map _ d_partT
  · rename_i b g i o
    simp only
    cases H[b]? with
    | none => exact d_false
    | some blk =>
      cases blk
      · exact d_false
      · exact d_partA
      · rename_i l
        cases l
        · exact d_ck (d_opt fun e => d_map _ d_partT)
        · exact d_ck (d_opt fun e => d_partA)
      · exact d_false

theorem d_pick {c a b : AV} : Det (xpick c a b) := by
  unfold xpick
  cases c <;> first | exact d_false | skip
  rename_i m; cases m <;> first | exact d_false | skip
  rename_i c
  simp only
  split
  · exact d_ret _
  · exact d_br (d_ret _) (d_ret _)

theorem d_fill {place : Nat → Option (Nat × Nat)} : ∀ {parts : List (Nat × AV)} {cells : List AV}, Det (xfill place cells parts)
  | [], cells => d_ret _
  | (k, v) :: r, cells => d_opt fun p => d_ck (d_fill (parts := r))

theorem d_build {ty : TypeId} {parts : List (Nat × AV)} : Det (xbuild tab ty parts) := by
  unfold xbuild
  refine d_opt fun y => d_opt fun zs => d_ck ?_
  cases y.d <;> first | exact d_false | skip
  · exact d_opt fun z => d_fill
  · exact d_ck d_fill

theorem d_nilCheck {x : AV} : Det (xnilCheck H x) := by
  unfold xnilCheck
  cases x <;> first | exact d_false | skip
  · rename_i m; cases m <;> first | exact d_false | exact d_ret _ | skip
    rename_i f _ _; cases f <;> first | exact d_false | exact d_ret _
  · rename_i b g i o
    simp only
    cases H[b]? with
    | none => exact d_false
    | some blk =>
      cases blk
      · exact d_false
      · exact d_ret _
      · exact d_ck (d_ret _)
      · exact d_false
  · rename_i f _ _; cases f <;> first | exact d_false | exact d_ret _

theorem d_int {st : Bool} {op : BinOp} {k k' : IntKind} {a b : Int} : Det (xint st op k a k' b) := by
  unfold xint
  cases op <;> first | exact d_ck (d_ret _) | exact d_ck (d_opt fun n => d_ret _) | exact d_ck (d_ck (d_opt fun n => d_ret _))

theorem d_str {op : BinOp} {a b : List UInt8} : Det (xstr op a b) := by
  unfold xstr
  cases op <;> first | exact d_false | exact d_ret _ | exact d_ck (d_ret _)

theorem d_eq {ty : TypeId} {x y : AV} {yc : Bool} : Det (xeq tab ty H x y yc) := by
  unfold xeq
  refine d_opt fun i => ?_
  have other : ∀ c o, Det fun K : Bool → Prop => Ck c (Opt o K) := fun c o => d_ck (d_opt fun a => d_ret a)
  cases x <;> first | exact other _ _ | skip
  rename_i x
  cases x <;> first | exact other _ _ | skip
  · cases y <;> first | exact other _ _ | skip
    rename_i y; cases y <;> first | exact other _ _ | exact d_ck (d_ret _)
  · cases y <;> first | exact other _ _ | skip
    rename_i y; cases y <;> first | exact other _ _ | skip
    simp only
    cases i.d <;> first | exact d_false | exact d_and (d_opt fun a => d_ret a)

theorem d_bin {op : BinOp} {ty : TypeId} {x y : AV} {yc : Bool} : Det (xbin tab op ty H x y yc) := by
  unfold xbin
  have other : Det fun K : T → Prop => (match op with
    | .eql => xeq tab ty H (toAgg x) (toAgg y) yc fun b => K (.bool b)
    | .neq => xeq tab ty H (toAgg x) (toAgg y) yc fun b => K (.bool (!b))
    | _ => False) := by
    cases op <;> first | exact d_false | exact d_map _ d_eq
  cases x <;> first | exact other | skip
  rename_i x
  cases x <;> first | exact other | skip
  · cases y <;> first | exact other | skip
    rename_i y; cases y <;> first | exact other | exact d_int
  · cases y <;> first | exact other | skip
    rename_i y; cases y <;> first | exact other | exact d_str

theorem d_un {st : Bool} {op : UnOp} {x : AV} : Det (xun st op x) := by
  unfold xun
  cases op <;> cases x <;> first | exact d_false | skip
  all_goals rename_i x; cases x <;> first | exact d_false | exact d_ret _ | exact d_opt fun n => d_ret _

theorem d_field {ty : TypeId} {a : AV} {k : Nat} : Det (xfield tab ty a k) := by
  unfold xfield
  refine d_opt fun y => d_opt fun f => d_opt fun z => ?_
  cases a <;> first | exact d_false | exact d_partA | skip
  rename_i m; cases m <;> first | exact d_false | exact d_map _ d_partT

theorem d_fieldAddr {ty : TypeId} {a : AV} {k : Nat} : Det (xfieldAddr tab ty H a k) := by
  unfold xfieldAddr
  refine d_opt fun y => d_opt fun f => d_opt fun z => d_ck ?_
  cases a <;> first | exact d_false | skip
  · rename_i m; cases m <;> first | exact d_false | exact d_ret _
  · rename_i b g i o
    simp only
    cases H[b]? with
    | none => exact d_false
    | some blk =>
      cases blk
      · exact d_false
      · exact d_ret _
      · exact d_ck (d_ret _)
      · exact d_false

theorem d_indexAddr {ty : TypeId} {a ix : AV} : Det (xindexAddr tab ty H a ix) := by
  unfold xindexAddr
  refine d_opt fun y => ?_
  cases ix <;> first | exact d_false | skip
  rename_i ix; cases ix <;> first | exact d_false | skip
  simp only
  cases y.d <;> cases a <;> first | exact d_false | skip
  · rename_i m; cases m <;> first | exact d_false | exact d_opt fun z => d_ck (d_opt fun x => d_ret _)
  · rename_i b g i o
    refine d_opt fun z => ?_
    cases H[b]? with
    | none => exact d_false
    | some blk => cases blk <;> first | exact d_false | exact d_ck (d_ret _)
  · rename_i m; cases m <;> first | exact d_false | exact d_opt fun z => d_ck (d_ret _)
  · rename_i b g i o
    refine d_opt fun z => d_ck ?_
    cases H[b]? with
    | none => exact d_false
    | some blk => cases blk <;> first | exact d_false | exact d_ret _ | exact d_ck (d_ret _)

theorem d_index {ty : TypeId} {a ix : AV} : Det (xindex tab ty a ix) := by
  unfold xindex
  refine d_opt fun y => ?_
  cases ix <;> first | exact d_false | skip
  rename_i ix; cases ix <;> first | exact d_false | skip
  simp only
  cases y.d <;> cases a <;> first | exact d_false | exact d_opt fun z => d_ck d_partA | skip
  all_goals rename_i m; cases m <;> first | exact d_false | exact d_ck (d_opt fun x => d_ret _) | exact d_opt fun z => d_ck (d_map _ d_partT)

theorem d_bound {v : Option AV} {dflt most : Nat} : Det (xbound v dflt most) := by
  unfold xbound
  cases v with
  | none => exact d_ret _
  | some v =>
    cases v <;> first | exact d_false | skip
    rename_i m; cases m <;> first | exact d_false | exact d_ck (d_ret _)

theorem d_slice {ty : TypeId} {a : AV} {lo hi mx : Option AV} : Det (xslice tab ty H a lo hi mx) := by
  unfold xslice
  refine d_opt fun y => ?_
  cases mx with
  | none =>
    simp only
    cases y.d <;> cases a <;> first | exact d_false | skip
    · rename_i m; cases m <;> first | exact d_false | exact d_bind d_bound fun h => d_map _ d_bound
    · rename_i m; cases m <;> first | exact d_false | exact d_opt fun z => d_ck (d_bind d_bound fun h => d_map _ d_bound) | exact d_opt fun z => d_bind d_bound fun h => d_bind d_bound fun _ => d_ret _
    · rename_i b g i o
      refine d_opt fun z => ?_
      cases H[b]? with
      | none => exact d_false
      | some blk => cases blk <;> first | exact d_false | exact d_ck (d_bind d_bound fun h => d_map _ d_bound)
  | some m =>
    simp only
    split
    · refine d_opt fun z => ?_
      cases a <;> first | exact d_false | exact d_ret _ | skip
      · rename_i m; cases m <;> first | exact d_false | exact d_ret _
      · rename_i b g i o
        simp only
        cases H[b]? with
        | none => exact d_false
        | some blk => cases blk <;> first | exact d_false | exact d_ck (d_br (d_ret _) (d_ret _))
    · exact d_false

theorem d_convert {s d : TypeId} {x : AV} : Det (xconvert tab s d x H) := by
  unfold xconvert
  refine d_opt fun y => d_opt fun w => ?_
  cases y.d <;> cases x <;> first | exact d_false | skip
  · rename_i m; cases m <;> first | exact d_false | exact d_opt fun n => d_ret _
  · rename_i m; cases m <;> first | exact d_false | exact d_ret _ | skip
    · simp only
      cases w.d <;> first | exact d_false | skip
      refine d_opt fun z => ?_
      cases z.d <;> first | exact d_false | skip
      rename_i k; cases k <;> first | exact d_false | exact d_ret _
    · simp only
      cases w.d <;> first | exact d_false | skip
      refine d_opt fun z => ?_
      cases z.d <;> first | exact d_false | skip
      rename_i k; cases k <;> first | exact d_false | exact d_ck d_bytes
    · simp only
      cases w.d <;> first | exact d_false | skip
      refine d_opt fun z => ?_
      cases z.d <;> first | exact d_false | skip
      rename_i k; cases k <;> first | exact d_false | exact d_ck d_bytes
  · rename_i b g i o
    simp only
    cases w.d <;> first | exact d_false | skip
    refine d_opt fun z => ?_
    cases z.d <;> first | exact d_false | skip
    rename_i k; cases k <;> first | exact d_false | skip
    simp only
    cases H[b]? with
    | none => exact d_false
    | some blk =>
      cases blk <;> first | exact d_false | skip
      rename_i l; cases l <;> first | exact d_false | exact d_ck d_bytes

theorem d_len {ty : TypeId} {x : AV} : Det (xlen tab ty H x) := by
  unfold xlen
  refine d_opt fun y => ?_
  have other : ∀ c o, Det fun K : AV → Prop => Ck c (Opt o fun n : Nat => K (.t (.int .i64 n))) := fun c o => d_ck (d_opt fun a => d_ret _)
  cases hd : y.d <;> first | exact d_ret _ | exact other _ _

theorem d_minmax {mx : Bool} {x y : AV} : Det (xminmax mx x y) := by
  unfold xminmax
  cases x <;> first | exact d_false | skip
  rename_i x; cases x <;> first | exact d_false | skip
  cases y <;> first | exact d_false | skip
  rename_i y; cases y <;> first | exact d_false | exact d_ck (d_ret _)

theorem d_extract {x : AV} {i : Nat} : Det (xextract x i) := by
  unfold xextract
  cases x <;> first | exact d_false | exact d_opt fun a => d_ret a

theorem d_ifc {t : TypeId} {x : AV} : Det (xifc tab t x) := by
  unfold xifc
  refine d_opt fun y => d_ck ?_
  cases x <;> exact d_ret _

theorem d_read {o : Oper} {env : List (Nat × AV)} : Det (xread tab o env H) := by
  unfold xread
  cases o.op <;> first | exact d_false | exact d_ret _ | exact d_pick | exact d_build | exact d_load | exact d_nilCheck | exact d_map _ d_bin | exact d_map _ d_un | exact d_convert | exact d_slice | exact d_fieldAddr | exact d_field | exact d_indexAddr | exact d_index | exact d_extract | exact d_ifc | skip
  rename_i c
  simp only
  cases c.callee <;> first | exact d_false | skip
  simp only
  split
  · exact d_len
  · exact d_minmax
  · exact d_minmax
  · exact d_false

end
end Go.Proofs.YthpkehhghcpolaaDoor

namespace Go.Proofs.YthpkehhghcpolaaDoor
open Go.RowKit
set_option linter.unusedVariables false
set_option linter.unusedSimpArgs false

def sameSlot : Operand → Operand → Bool
  | .tmp a, .tmp b => Nat.beq a b
  | _, _ => false

def isMk (o : Oper) : Bool :=
  match o.op with
  | .alloc _ => true
  | .box _ _ => true
  | .buildSlice _ _ _ => true
  | .makeSlice _ l c => sameSlot l c
  | _ => false

/-- What an operation makes: what leads to the block, and the block. -/
def xmake (tab : Tab) (o : Oper) (env : List (Nat × AV)) (K : (Nat → AV) → Blk → Prop) : Prop :=
  match o.op with
  | .alloc e => Opt (tab e) fun y => Opt y.zero fun zs => Ck (zs.all T.one && Nat.beq zs.length y.size) 
      (match Nat.ble 300 y.size with | true => K (fun n => .ptr n 0 0 0) (.arr e y.size false 0 (.ts [.agg zs])) | false => K (fun n => .ptr n 0 0 0) (.box (zs.map .t)))
  | .box e x => Ck ((opd env x).cells.all AV.one) (K (fun n => .ptr n 0 0 0) (.box (opd env x).cells))
  | .buildSlice t len parts => Opt (tab t) fun y =>
    match y.d with
    | .slice e => Opt (tab e) fun z => Opt (elems z.size 0 (parts.toList.map fun p => (p.1, opd env p.2))) fun l =>
      Ck (Nat.beq l.length len && Nat.ble 1 z.size && Nat.ble (len * z.size) 16777216 && z.zero.isSome) (K (fun n => .sl n 0 0 len) (.arr e z.size false 0 (seqOf l)))
    | _ => False
  | .makeSlice t l c => Opt (tab t) fun y =>
    match y.d, opd env l, opd env c with
    | .slice e, .t (.int _ n), .t (.int _ cc) => Opt (tab e) fun z => Opt z.zero fun zs =>
      Ck (decide (0 ≤ n) && decide (n ≤ cc) && decide (cc * (z.bytes : Int) ≤ 140737488355328) && decide (cc ≤ 9223372036854775807) && Nat.ble 1 z.size && Nat.beq zs.length z.size && zs.all T.one)
        (Ck (decide (n = cc)) (K (fun m => .sl m 0 0 n.toNat) (.arr e z.size false 0 (.ts (List.replicate n.toNat (mkElem z.size zs))))))
    | _, _, _ => False
  | _ => False

theorem xop_make {tab : Tab} {call : CallP} {o : Oper} {env : List (Nat × AV)} {H : AH} {K : AV → AH → Prop} (hm : isMk o = true) (h : xop tab call o env H K) :
    ∃ mk blk, xmake tab o env (fun m b => m = mk ∧ b = blk) ∧ K (mk H.length) (H ++ [blk]) := by
  unfold xop at h
  unfold xmake
  unfold isMk at hm
  generalize o.op = p at h hm ⊢
  cases p <;> simp only at hm h ⊢ <;> first | (cases hm; done) | skip
  · simp only [opt_iff, ck_iff] at h ⊢
    obtain ⟨y, hy, zs, hz, hc, k⟩ := h
    split at k
    · next hb => exact ⟨_, _, ⟨y, hy, zs, hz, hc, by rw [hb]; exact ⟨rfl, rfl⟩⟩, k⟩
    · next hb => exact ⟨_, _, ⟨y, hy, zs, hz, hc, by rw [hb]; exact ⟨rfl, rfl⟩⟩, k⟩
  · simp only [ck_iff] at h ⊢
    exact ⟨_, _, ⟨h.1, rfl, rfl⟩, h.2⟩
  · unfold xbuildSlice at h
    rw [opt_iff] at h
    obtain ⟨y, hy, h⟩ := h
    split at h
    · rename_i e he
      simp only [opt_iff, ck_iff] at h ⊢
      obtain ⟨z, hz, l, hl, hc, k⟩ := h
      refine ⟨fun n => .sl n 0 0 _, _, ⟨y, hy, ?_⟩, k⟩
      rw [he]
      simp only [opt_iff, ck_iff]
      exact ⟨z, hz, l, hl, hc, trivial, rfl⟩
    · exact h.elim
  · rename_i t l cp
    unfold xmakeSlice at h
    have hlc : opd env cp = opd env l := by
      cases l <;> cases cp <;> simp only [sameSlot] at hm <;> first | (cases hm; done) | skip
      rw [Nat.eq_of_beq_eq_true hm]
    rw [hlc] at h ⊢
    rw [opt_iff] at h
    obtain ⟨y, hy, h⟩ := h
    generalize hv : opd env l = v at h ⊢
    split at h
    · rename_i e k1 n k2 c2 he h2
      cases h2
      simp only [opt_iff, ck_iff] at h
      obtain ⟨z, hz, zs, hzs, hc, k⟩ := h
      rw [br_iff] at k
      rcases k with ⟨k0, _⟩ | ⟨_, k⟩
      · simp at k0
      refine ⟨fun m => .sl m 0 0 n.toNat, _, opt_iff.2 ⟨y, hy, ?_⟩, k⟩
      rw [he]
      simp only [opt_iff, ck_iff]
      exact ⟨z, hz, zs, hzs, hc, by simp, trivial, rfl⟩
    · exact h.elim

theorem xmake_env {tab : Tab} {o : Oper} {env env' : List (Nat × AV)} {K : (Nat → AV) → Blk → Prop} (he : ∀ x ∈ o.op.operands.toList, opd env x = opd env' x) (h : xmake tab o env K) : xmake tab o env' K := by
  unfold xmake at h ⊢
  generalize o.op = p at h he ⊢
  cases p <;> simp only at h ⊢ <;> first | exact h | skip
  case box t x => rw [← he x (by simp [Op.operands])]; exact h
  case buildSlice t n ps => rw [← parts_env (env := env) (fun x hx => he x (by simpa [Op.operands] using hx))]; exact h
  case makeSlice t a b => rw [← he a (by simp [Op.operands]), ← he b (by simp [Op.operands])]; exact h

/-- The model's block holds what the walk's block says. -/
inductive Fills (w : World) (c : Cx) (H : AH) : (Nat → AV) → Blk → Value → Obj → Prop
  | box (cells : List AV) (arr : Array Value) (e : TypeId) (hl : arr.size = cells.length)
      (hc : ∀ (j : Nat) x v, cells[j]? = some x → arr[j]? = some v → x.one = true ∧ RA w c H x v ∧ v.oneCell' = true) :
      Fills w c H (fun n => .ptr n 0 0 0) (.box cells) (.pointer (some ⟨w.heap.size, 0, none⟩)) (.cells arr e (0, 0))
  | arr (e s len : Nat) (l : Sq) (arr : Array Value) (hl : arr.size = len * s) (hn : l.length = len) (hm : len ≤ maxLen) (hc : Rowed w c H s l arr) :
      Fills w c H (fun n => .sl n 0 0 len) (.arr e s false 0 l) (.slice (some ⟨w.heap.size, 0, none⟩) len len) (.cells arr e (0, 0))
  | big (e s : Nat) (x : T) (arr : Array Value) (hl : arr.size = s) (hc : Rowed w c H s (.ts [x]) arr) :
      Fills w c H (fun n => .ptr n 0 0 0) (.arr e s false 0 (.ts [x])) (.pointer (some ⟨w.heap.size, 0, none⟩)) (.cells arr e (0, 0))

section
variable {P : Program} {tab : Tab}

theorem mk_ok (hT : TabOK P tab) {o : Oper} {env : List (Nat × AV)} {K : (Nat → AV) → Blk → Prop} (h : xmake tab o env K) {w : World} {c : Cx} {H : AH} {a : Act} (he : ∀ t, RA w c H (lk env t) (a.tmps.getD t undef)) :
    ∃ mk blk val obj, (execOp a.eval o).run P w = .ok (.value val) (w.alloc obj) ∧ Fills w c H mk blk val obj ∧ K mk blk := by
  unfold xmake at h
  split at h
  · rename_i e ho
    simp only [opt_iff, ck_iff] at h
    obtain ⟨y, hy, zs, hz, hc, k⟩ := h
    simp only [Bool.and_eq_true] at hc
    obtain ⟨z, r, hz', _⟩ := run_zero (w := w) hT hy hz
    have ha := agg_of_zero (w := w) (c := c) (H := H) hz' hc.1
    have hall : (AV.agg (zs.map .t)).cells.all AV.one = true := by simp only [AV.cells, List.all_map]; exact hc.1
    obtain ⟨cl, cr⟩ := ha.cells hall
    split at k
    · obtain ⟨hsz, hR⟩ := big_rowed (w := w) (c := c) (H := H) hz' hc.1 (Nat.eq_of_beq_eq_true hc.2)
      refine ⟨_, _, _, _, ?_, .big e y.size (.agg zs) z.cells hsz hR, k⟩
      unfold execOp
      rw [ho]
      simp [Instr.alloc, r, newVar, newRow]
    · refine ⟨_, _, _, _, ?_, .box (zs.map .t) z.cells e cl.symm cr, k⟩
      unfold execOp
      rw [ho]
      simp [Instr.alloc, r, newVar, newRow]
  · rename_i e x ho
    rw [ck_iff] at h
    obtain ⟨cl, cr⟩ := (opd_ok he x).cells h.1
    refine ⟨_, _, _, _, ?_, .box _ (a.eval x).cells e cl.symm cr, h.2⟩
    unfold execOp
    rw [ho]
    simp [Instr.box, newVar, newRow]
  · rename_i t len parts ho
    rw [opt_iff] at h
    obtain ⟨y, hy, h⟩ := h
    have hd := (hT t y hy).d
    split at h
    · rename_i e hye
      rw [hye] at hd
      simp only [opt_iff, ck_iff] at h
      obtain ⟨z, hz, l, hel, hc, k⟩ := h
      simp only [Bool.and_eq_true] at hc
      have c1 := Nat.eq_of_beq_eq_true hc.1.1.1
      have c2 := Nat.le_of_ble_eq_true hc.1.1.2
      have c3 := Nat.le_of_ble_eq_true hc.1.2
      obtain ⟨zs, hzs⟩ := Option.isSome_iff_exists.1 hc.2
      have hp := parts_ok he parts.toList
      obtain ⟨arr0, ha0, hrun⟩ := run_buildSlice (P := P) (w := w) hT hd hz hzs c3 (parts.map fun p => (p.1, a.eval p.2))
      obtain ⟨q, q1, q2, q3, q4⟩ := elems_ok c2 (arr := arr0) hp hel (by rw [ha0, c1, Nat.zero_add]; exact Nat.le_refl _)
      have hmax : len ≤ maxLen := by
        have : len * 1 ≤ len * z.size := Nat.mul_le_mul_left _ c2
        simp [maxLen]; omega
      refine ⟨_, _, _, _, ?_, .arr e z.size len (seqOf l) q (by rw [q2, ha0]) (by rw [seqOf_length]; exact c1) hmax (fun i x hi => by rw [seqOf_get] at hi; have := q4 i x hi; rw [Nat.zero_add] at this; exact this), k⟩
      have := hrun q (by rw [Array.toList_map]; exact q1)
      unfold execOp
      rw [ho]
      simp only [Sem.run_bind, this, Result.andThen_ok, Sem.run_pure]
    · exact h.elim
  · rename_i t l cp ho
    rw [opt_iff] at h
    obtain ⟨y, hy, h⟩ := h
    have hd := (hT t y hy).d
    have hl := opd_ok he l
    have hcp := opd_ok he cp
    split at h
    · rename_i e k1 n k2 cc hye h1 h2
      rw [hye] at hd
      rw [h1] at hl
      rw [h2] at hcp
      simp only [opt_iff, ck_iff] at h
      obtain ⟨z, hz, zs, hzs, hc, hn, k⟩ := h
      obtain rfl := of_decide_eq_true hn
      simp only [Bool.and_eq_true, decide_eq_true_eq] at hc
      obtain ⟨⟨⟨⟨⟨⟨h0, hnc⟩, hby⟩, hmx⟩, hs1⟩, hzl⟩, hz1⟩ := hc
      have hs1 := Nat.le_of_ble_eq_true hs1
      have hzl := Nat.eq_of_beq_eq_true hzl
      have hl := hl.int
      have hcp := hcp.int
      obtain ⟨zv, r, hz', i, hi, hiz, his, hib⟩ := run_zero (w := w) hT hz hzs
      obtain ⟨zk1, zk2⟩ := ofVs_ok (w := w) (M := c.M H) hz'
      have run := run_make (P := P) w t e i zv hd hi hiz k1 k2 n n h0 hnc (by rw [hib, Int.mul_comm]; omega) (by omega)
      rw [his] at run
      have hzs0 : zv.cells.size = z.size := by simpa [hzl] using zk1.symm
      have hel := mkElem_cells hzl hz1 hs1
      refine ⟨_, _, _, _, ?_, .arr e z.size n.toNat (.ts (List.replicate n.toNat (mkElem z.size zs))) (madeCells zv.cells (n.toNat * z.size)) (by rw [size_madeCells]) (by simp [Sq.length]) (by simp [maxLen]; omega) (Rowed.ts.2 fun k x hk => ?_), k⟩
      · unfold execOp
        rw [ho]
        simp only [Sem.run_bind, hl, hcp, run, Result.andThen_ok, Sem.run_pure]
      · have hkl := lt_of_getElem? hk
        simp at hkl
        have : x = mkElem z.size zs := by simp [hkl] at hk; exact hk.symm
        subst this
        rw [hel]
        refine ⟨hzl, fun j y' hj => ?_⟩
        have hjl := lt_of_getElem? hj
        have hlt : k * z.size + j < n.toNat * z.size := by
          have : (k + 1) * z.size ≤ n.toNat * z.size := Nat.mul_le_mul_right _ (by omega)
          rw [Nat.succ_mul] at this; omega
        obtain ⟨q, hq⟩ := arr_get (a := zv.cells) (i := j) (by omega)
        have hy1 : y'.one = true := by rw [List.all_eq_true] at hz1; exact hz1 y' (List.mem_of_getElem? hj)
        have rt := zk2 j y' q hj (by simpa using hq)
        refine ⟨q, ?_, hy1, rt, (rt.oneCell hy1).1⟩
        rw [made_get _ _ _ hlt (by omega), hzs0, Nat.mul_comm k, Nat.mul_add_mod, Nat.mod_eq_of_lt (by omega)]
        exact hq
    · exact h.elim
  · exact h.elim

/-- The model lays a block that the walk has laid already. -/
theorem late_ok {w : World} {c : Cx} {H : AH} {B : Nat} (hs : HS w c H B) {n : Nat} {mk : Nat → AV} {blk : Blk} {val : Value} {obj : Obj} (hb : H[n]? = some blk) (hg : blk.fix = true → c.G n = none) (hf : Fills w c H mk blk val obj) :
    ∃ c', Ew w c H (w.alloc obj) c' H ∧ HS (w.alloc obj) c' H B ∧ RA (w.alloc obj) c' H (mk n) val ∧ (∀ b, b ≠ n → c.G b = none → c'.G b = none) := by
  have hlt := lt_of_getElem? hb
  by_cases hfix : blk.fix = true
  · have hg := hg hfix
    let c' : Cx := ⟨c.F, fun b => if b = n then some w.heap.size else c.G b⟩
    have ew : Ew w c H (w.alloc obj) c' H := by
      refine ⟨rfl, by simp, fun b bk hb' => ⟨bk, hb', ?_⟩, fun cb hm => ?_, fun cb hlt _ => heap_old w _ cb hlt⟩
      · have keep : ∀ cb, c.G b = some cb → c'.G b = some cb := fun cb hc => by
          have hne : b ≠ n := fun e => by subst e; rw [hg] at hc; cases hc
          simp only [c', if_neg hne]; exact hc
        cases bk with
        | dead => trivial
        | box cs => exact ⟨rfl, keep⟩
        | iter s p => exact ⟨rfl, keep⟩
        | arr e s z g l =>
          refine ⟨rfl, rfl, rfl, Nat.le_refl _, Nat.le_refl _, fun _ => ⟨rfl, fun cb hc => ⟨keep cb hc, ?_⟩⟩⟩
          unfold rowSize
          rw [heap_old w _ cb (hs.base b cb hc).2]
      · rcases hm with ⟨b, bk, hb', hl, hg'⟩
        · simp only [c'] at hg'
          split at hg'
          · exact .inr (by simp at hg'; omega)
          · exact .inl ⟨b, bk, hb', hl, hg'⟩
    have hinj : ∀ b b' cb, c'.G b = some cb → c'.G b' = some cb → b = b' := by
      intro b b' cb h h'
      simp only [c'] at h h'
      split at h <;> split at h'
      · omega
      · have := (hs.base b' cb h').2; simp at h; omega
      · have := (hs.base b cb h).2; simp at h'; omega
      · exact hs.inj b b' cb h h'
    have hbase : ∀ b cb, c'.G b = some cb → B ≤ cb ∧ cb < (w.alloc obj).heap.size := by
      intro b cb h
      simp only [c'] at h
      split at h
      · simp at h; subst h; exact ⟨hs.hB, by simp⟩
      · have := hs.base b cb h; exact ⟨this.1, by simp; omega⟩
    have hdom : ∀ b cb, c'.G b = some cb → b < H.length := by
      intro b cb h
      simp only [c'] at h
      split at h
      · omega
      · exact hs.dom b cb h
    have hold : ∀ b cb, b ≠ n → c'.G b = some cb → c.G b = some cb ∧ (w.alloc obj).heap[cb]? = w.heap[cb]? := by
      intro b cb hne h
      simp only [c', if_neg hne] at h
      exact ⟨h, heap_old w _ cb (hs.base b cb h).2⟩
    have hhere : ∀ cb, c'.G n = some cb → cb = w.heap.size := by
      intro cb h
      simp only [c', if_true] at h
      simp at h; omega
    have hnew : c'.G n = some w.heap.size := by simp [c']
    have hnw : ∀ b cb, c'.G b = some cb → (∃ b', c.G b' = some cb) ∨ w.heap.size ≤ cb := by
      intro b cb h
      simp only [c'] at h
      split at h
      · exact .inr (by simp at h; omega)
      · exact .inl ⟨b, h⟩
    refine ⟨c', ew, ?_, ?_, fun b hne h => by simp only [c', if_neg hne]; exact h⟩
    · cases hf with
      | box cells arr e hl hc =>
        refine hs.keepW ew hinj hbase hdom (fun b cb cs hb' hg' => ?_) (fun b cb e1 s1 z1 g1 l1 hb' hg' => ?_) (fun b cb s1 p1 hb' hg' => ?_) hnw
        · by_cases hne : b = n
          · subst hne
            rw [hb] at hb'; cases hb'
            rw [hhere cb hg']
            exact .inr ⟨arr, e, heap_alloc_new w _, hl, fun j x v hj hv => ⟨(hc j x v hj hv).1, (hc j x v hj hv).2.1.ew ew, (hc j x v hj hv).2.2⟩⟩
          · exact .inl ⟨hb', hold b cb hne hg'⟩
        · by_cases hne : b = n
          · subst hne; rw [hb] at hb'; cases hb'
          · exact .inl ⟨hb', hold b cb hne hg'⟩
        · by_cases hne : b = n
          · subst hne; rw [hb] at hb'; cases hb'
          · exact .inl ⟨hb', hold b cb hne hg'⟩
      | arr e s len l arr hl hn hm hc =>
        refine hs.keepW ew hinj hbase hdom (fun b cb cs hb' hg' => ?_) (fun b cb e1 s1 z1 g1 l1 hb' hg' => ?_) (fun b cb s1 p1 hb' hg' => ?_) hnw
        · by_cases hne : b = n
          · subst hne; rw [hb] at hb'; cases hb'
          · exact .inl ⟨hb', hold b cb hne hg'⟩
        · by_cases hne : b = n
          · subst hne
            rw [hb] at hb'; cases hb'
            rw [hhere cb hg']
            exact .inr ⟨arr, len, heap_alloc_new w _, hl, by omega, hm, hc.ew ew⟩
          · exact .inl ⟨hb', hold b cb hne hg'⟩
        · by_cases hne : b = n
          · subst hne; rw [hb] at hb'; cases hb'
          · exact .inl ⟨hb', hold b cb hne hg'⟩
      | big e s x arr hl hc =>
        refine hs.keepW ew hinj hbase hdom (fun b cb cs hb' hg' => ?_) (fun b cb e1 s1 z1 g1 l1 hb' hg' => ?_) (fun b cb s1 p1 hb' hg' => ?_) hnw
        · by_cases hne : b = n
          · subst hne; rw [hb] at hb'; cases hb'
          · exact .inl ⟨hb', hold b cb hne hg'⟩
        · by_cases hne : b = n
          · subst hne
            rw [hb] at hb'; cases hb'
            rw [hhere cb hg']
            exact .inr ⟨arr, 1, heap_alloc_new w _, by rw [Nat.one_mul]; exact hl, ⟨Nat.le_refl _, fun h => by cases h⟩, by decide, hc.ew ew⟩
          · exact .inl ⟨hb', hold b cb hne hg'⟩
        · by_cases hne : b = n
          · subst hne; rw [hb] at hb'; cases hb'
          · exact .inl ⟨hb', hold b cb hne hg'⟩
    · cases hf with
      | box cells arr e hl hc => exact .ptr _ _ _ _ _ _ hb ⟨_, hnew, rfl⟩
      | big e s x arr hl hc => exact .ptr _ _ _ _ _ _ hb ⟨Nat.le_refl _, fun _ => ⟨_, hnew, by rw [Nat.zero_mul]⟩⟩
      | arr e s len l arr hl hn hm hc =>
        refine .sl _ _ _ _ _ _ hb ⟨Nat.le_refl _, fun _ => ⟨by omega, .inr <| .inr ⟨by simp, w.heap.size, len, 0, hnew, rfl, ?_, Nat.le_refl _, by omega, .inr (by simp), fun _ => rfl⟩⟩⟩
        rw [rowSize_alloc, hl, Nat.zero_add]
  · cases hf with
    | box => simp [Blk.fix] at hfix
    | big e s x arr hl hc => simp [Blk.fix, Sq.length] at hfix
    | arr e s len l arr hl hn hm hc =>
      simp only [Blk.fix, Bool.not_false, Bool.true_and, decide_eq_true_eq] at hfix
      have hl0 : l.length = 0 := by omega
      have hlen : len = 0 := by omega
      subst hlen
      have ew : Ew w c H (w.alloc (.cells arr e (0, 0))) c H := by
        refine ⟨rfl, by simp, fun b bk hb' => ⟨bk, hb', ?_⟩, fun cb hm => .inl hm, fun cb hlt _ => heap_old w _ cb hlt⟩
        cases bk with
        | dead => trivial
        | box cs => exact ⟨rfl, fun _ h => h⟩
        | iter s p => exact ⟨rfl, fun _ h => h⟩
        | arr e s z g l =>
          refine ⟨rfl, rfl, rfl, Nat.le_refl _, Nat.le_refl _, fun _ => ⟨rfl, fun cb hc => ⟨hc, ?_⟩⟩⟩
          unfold rowSize
          rw [heap_old w _ cb (hs.base b cb hc).2]
      refine ⟨c, ew, hs.keepW ew hs.inj (fun b cb h => by have := hs.base b cb h; exact ⟨this.1, by simp; omega⟩) hs.dom (fun b cb cs hb' hg' => .inl ⟨hb', hg', heap_old w _ cb (hs.base b cb hg').2⟩) (fun b cb e1 s1 z1 g1 l1 hb' hg' => .inl ⟨hb', hg', heap_old w _ cb (hs.base b cb hg').2⟩) (fun b cb s1 p1 hb' hg' => .inl ⟨hb', hg', heap_old w _ cb (hs.base b cb hg').2⟩), ?_, fun _ _ h => h⟩
      exact .sl _ _ _ _ _ _ hb ⟨Nat.le_refl _, fun _ => ⟨by omega, .inr (.inl ⟨rfl, hl0, _, rfl⟩)⟩⟩

end
end Go.Proofs.YthpkehhghcpolaaDoor

namespace Go.Proofs.YthpkehhghcpolaaDoor
open Go.RowKit
set_option linter.unusedVariables false
set_option linter.unusedSimpArgs false

def isRd (o : Oper) : Bool :=
  match o.op with
  | .move _ => true
  | .pick _ _ _ => true
  | .build _ _ => true
  | .load _ _ => true
  | .nilCheck _ => true
  | .binOp _ _ _ _ _ => true
  | .unOp _ _ _ => true
  | .convert _ _ _ => true
  | .slice _ _ _ _ _ => true
  | .fieldAddr _ _ _ => true
  | .field _ _ _ => true
  | .indexAddr _ _ _ => true
  | .index _ _ _ => true
  | .extract _ _ => true
  | .makeInterface _ _ => true
  | .makeFunc _ _ _ => true
  | .call c => (match c.callee with | .builtin .len => true | .builtin .min => true | .builtin .max => true | _ => false)
  | _ => false

/-- A reading operation, or none, as its guard says. -/
def xgR (tab : Tab) (ops : Array Oper) (D : List Nat) (o : Oper) (s : St) (K : St → Prop) : Prop :=
  match s with
  | ⟨env, H⟩ =>
  match o.guard with
  | none => xread tab o env (hide D H) fun v => stp ⟨env, H⟩ o.dst v H K
  | some (j, want) =>
    Opt (guardSlot ops j) fun d =>
    match lk env d with
    | .t (.bool c) =>
      (match want with
      | true => Br c (xread tab o ((d, .t (.bool true)) :: env) (hide D H) fun v => stp ⟨(d, .t (.bool true)) :: env, H⟩ o.dst v H K) (stp ⟨(d, .t (.bool false)) :: env, H⟩ o.dst (.tup []) H K)
      | false => Br c (stp ⟨(d, .t (.bool true)) :: env, H⟩ o.dst (.tup []) H K) (xread tab o ((d, .t (.bool false)) :: env) (hide D H) fun v => stp ⟨(d, .t (.bool false)) :: env, H⟩ o.dst v H K))
    | .tup [] => stp ⟨env, H⟩ o.dst (.tup []) H K
    | _ => False

def binders (o : Oper) : List Nat := (o.after.toList.filter fun e => Region.binds .any e).map (·.on)

def bits (ms : List Nat) : List Nat → Nat
  | [] => 0
  | j :: r => (1 <<< j) ||| (ms.getD j 0 ||| bits ms r)

/-- Of each operation, all that must come before it (as the bits of a number). -/
def masksAux : List Oper → List Nat → List Nat
  | [], ms => ms
  | o :: r, ms => masksAux r (ms ++ [bits ms (binders o)])

def masks (ops : Array Oper) : List Nat := masksAux ops.toList []

/-- An order of a region's operations; two that write may come in either order ('race': both). -/
inductive Ord where
  | nil
  | op (i : Nat) (un : List Nat) (r : Ord)
  | race (a b : Ord)

/-- The walk of a region in an order of its own. With each that writes: what came before it in the walk, and needn't in the model. 'D': of each that reads, blocks that may be written before it in the model. -/
noncomputable def xdr (tab : Tab) (call : CallP) (ops : Array Oper) (D : Nat → List Nat) (σ : Ord) : St → (St → Prop) → Prop :=
  @Ord.rec (fun _ => St → (St → Prop) → Prop)
    (fun s K => K s)
    (fun i un _ ih s K => Opt ops[i]? fun o =>
      match isRd o with
      | true => xgR tab ops (D i) o s fun s' => ih s' K
      | false =>
        match isMk o with
        | true => Ck (!(D i).contains s.H.length) (xguard tab call ops o s fun s' => ih s' K)
        | false => xguard tab call ops o s fun s' => (∀ j ∈ un, LeX (D j) s.H s'.H) ∧ ih s' K)
    (fun _ _ iha ihb s K => iha s K ∧ ihb s K) σ

theorem xdr_op (tab : Tab) (call : CallP) (ops : Array Oper) (D : Nat → List Nat) (i : Nat) (un : List Nat) (r : Ord) (s : St) (K : St → Prop) : xdr tab call ops D (.op i un r) s K = Opt ops[i]? fun o =>
    match isRd o with
    | true => xgR tab ops (D i) o s fun s' => xdr tab call ops D r s' K
    | false =>
      match isMk o with
      | true => Ck (!(D i).contains s.H.length) (xguard tab call ops o s fun s' => xdr tab call ops D r s' K)
      | false => xguard tab call ops o s fun s' => (∀ j ∈ un, LeX (D j) s.H s'.H) ∧ xdr tab call ops D r s' K := rfl

/-! ### What must come before what -/

def apartOps (ops : Array Oper) (oj oi : Oper) : Bool :=
  (isRd oj || isMk oj) && (match oj.dst with | some d => !(oi.looksAt ops).contains d | none => true) && (match oi.dst with | some d => !(oj.looksAt ops).contains d && (match oj.dst with | some d' => !Nat.beq d d' | none => true) | none => true)

/-- Does it write, call or the like? -/
def chainB (ops : Array Oper) (j : Nat) : Bool :=
  match ops[j]? with
  | some o => !isRd o && !isMk o
  | none => false

def Ord.head : Ord → Option Nat
  | .op i _ _ => some i
  | _ => none

/-- Is the order one in which the region can be walked? ('R': of two that write, the second may come behind the first, though it needn't.) -/
def drawOK (ops : Array Oper) (ms : List Nat) : Ord → List (Nat × Nat) → List Nat → Bool
  | .nil, _, done => (List.range ops.size).all fun i => done.contains i
  | .race a b, R, done =>
    (match a.head, b.head with
    | some j, some i => chainB ops j && chainB ops i && drawOK ops ms a ((j, i) :: R) done && drawOK ops ms b ((i, j) :: R) done
    | _, _ => false)
  | .op i un r, R, done =>
    (match ops[i]? with
    | some oi =>
      (binders oi).all (fun j => done.contains j) &&
      done.all (fun j => !Nat.beq i j && ((ms.getD i 0).testBit j || (match ops[j]? with | some oj => apartOps ops oj oi | none => false) || (R.contains (j, i) && chainB ops j))) &&
      (!chainB ops i || done.all fun j => (ms.getD i 0).testBit j || chainB ops j || un.contains j)
    | none => false) && drawOK ops ms r R (i :: done)

/-! ### Listed operations -/

/-- What is listed has all before it that must be. -/
def Closed (ops : Array Oper) (L : Nat → Bool) : Prop := ∀ i o, ops[i]? = some o → L i = true → ∀ j ∈ binders o, L j = true

theorem bits_spec {ms : List Nat} {j : Nat} : ∀ {l : List Nat}, (bits ms l).testBit j = true → ∃ k ∈ l, k = j ∨ (ms.getD k 0).testBit j = true
  | [], h => by simp [bits] at h
  | k :: r, h => by
    simp only [bits, Nat.testBit_or, Bool.or_eq_true, Nat.one_shiftLeft, Nat.testBit_two_pow, decide_eq_true_eq] at h
    rcases h with h | h | h
    · exact ⟨k, by simp, .inl h⟩
    · exact ⟨k, by simp, .inr h⟩
    · obtain ⟨k', h1, h2⟩ := bits_spec h
      exact ⟨k', by simp [h1], h2⟩

/-- The bits of each number are what must come before. -/
def MsOK (ops : Array Oper) (ms : List Nat) : Prop := ∀ i j, (ms.getD i 0).testBit j = true → ∀ L, Closed ops L → (∀ o, ops[i]? = some o → ∀ k ∈ binders o, L k = true) → L j = true

theorem masksAux_ok {ops : Array Oper} : ∀ {l pre : List Oper} {ms : List Nat}, ops.toList = pre ++ l → ms.length = pre.length → MsOK ops ms → MsOK ops (masksAux l ms)
  | [], pre, ms, h, hl, hm => hm
  | o :: r, pre, ms, h, hl, hm => by
    simp only [masksAux]
    refine masksAux_ok (pre := pre ++ [o]) (by simp [h]) (by simp [hl]) fun i j hb L hL hk => ?_
    by_cases hi : i < ms.length
    · rw [List.getD_eq_getElem?_getD, List.getElem?_append_left hi, ← List.getD_eq_getElem?_getD] at hb
      exact hm i j hb L hL hk
    · by_cases he : i = ms.length
      · subst he
        rw [List.getD_eq_getElem?_getD, List.getElem?_append_right (Nat.le_refl _)] at hb
        simp only [Nat.sub_self, List.getElem?_cons_zero, Option.getD_some] at hb
        have ho : ops[ms.length]? = some o := by
          rw [← Array.getElem?_toList, h, List.getElem?_append_right (by omega), hl]; simp
        obtain ⟨k, k1, k2⟩ := bits_spec hb
        have hLk := hk o ho k k1
        rcases k2 with rfl | k2
        · exact hLk
        · exact hm k j k2 L hL fun o' ho' k' hk' => hL k o' ho' hLk k' hk'
      · rw [List.getD_eq_getElem?_getD, List.getElem?_eq_none (by simp; omega)] at hb
        simp at hb

theorem masks_ok (ops : Array Oper) : MsOK ops (masks ops) := masksAux_ok (pre := []) (by simp) rfl fun i j h => by simp at h

end Go.Proofs.YthpkehhghcpolaaDoor

namespace Go.Proofs.YthpkehhghcpolaaDoor
open Go.RowKit
set_option linter.unusedVariables false
set_option linter.unusedSimpArgs false

def LkEq (e e' : List (Nat × AV)) : Prop := ∀ t, lk e t = lk e' t

theorem LkEq.refl (e : List (Nat × AV)) : LkEq e e := fun _ => rfl
theorem LkEq.symm {e e' : List (Nat × AV)} (h : LkEq e e') : LkEq e' e := fun t => (h t).symm
theorem LkEq.trans {e e' e'' : List (Nat × AV)} (h : LkEq e e') (k : LkEq e' e'') : LkEq e e'' := fun t => (h t).trans (k t)

def putd (d : Option Nat) (v : AV) (env : List (Nat × AV)) : List (Nat × AV) := match d with | some d => (d, v) :: env | none => env

theorem lk_putd (d : Option Nat) (v : AV) (env : List (Nat × AV)) (t : Nat) : lk (putd d v env) t = if d = some t then v else lk env t := by
  cases d with
  | none => simp [putd]
  | some d => simp only [putd, lk_cons, Option.some.injEq]

theorem LkEq.putd {e e' : List (Nat × AV)} (h : LkEq e e') (d : Option Nat) (v : AV) : LkEq (putd d v e) (putd d v e') := fun t => by
  rw [lk_putd, lk_putd, h t]

theorem put_eq (e : List (Nat × AV)) (H H' : AH) (d : Option Tmp) (v : AV) : St.put ⟨e, H⟩ d v H' = ⟨putd d v e, H'⟩ := by cases d <;> rfl

theorem LkEq.told {env : List (Nat × AV)} {d : Nat} {c b : Bool} (h : lk env d = .t (.bool c)) (hc : c = b) : LkEq ((d, .t (.bool b)) :: env) env := fun t => by
  rw [lk_cons]
  split
  · rename_i e; rw [← e, h, hc]
  · rfl

theorem opd_lk {e e' : List (Nat × AV)} (h : LkEq e e') (x : Operand) : opd e x = opd e' x := by
  cases x <;> first | rfl | exact h _

section
variable {P : Program} {tab : Tab}

theorem Sat.lkeq {O c env env' H a w} (h : Sat O c ⟨env, H⟩ a w) (e : LkEq env' env) : Sat O c ⟨env', H⟩ a w :=
  ⟨fun t => by rw [show lk env' t = lk env t from e t]; exact h.env t, h.hs, h.size, h.defers, h.ev, h.below⟩

theorem Sat.putd {O c env H a w} (h : Sat O c ⟨env, H⟩ a w) (d : Option Tmp) (hd : ∀ k, d = some k → k < O.N) {v : AV} {val : Value} (hv : RA w c H v val) : Sat O c ⟨putd d v env, H⟩ (a.put d val) w := by
  have := Sat.put h d hd hv ⟨env, H⟩ rfl
  rwa [put_eq] at this

/-- The operation is to run. -/
def Wants (ops : Array Oper) (o : Oper) (env : List (Nat × AV)) : Prop :=
  o.guard = none ∨ ∃ j want d, o.guard = some (j, want) ∧ guardSlot ops j = some d ∧ lk env d = .t (.bool want)

/-- It isn't. -/
def Skips (ops : Array Oper) (o : Oper) (env : List (Nat × AV)) : Prop :=
  ∃ j want d, o.guard = some (j, want) ∧ guardSlot ops j = some d ∧ (lk env d = .t (.bool (!want)) ∨ lk env d = .tup [])

def gd (ops : Array Oper) (o : Oper) (run : List (Nat × AV) → (AV → AH → Prop) → Prop) (s : St) (K : St → Prop) : Prop :=
  match s with
  | ⟨env, H⟩ =>
  match o.guard with
  | none => run env fun v H' => stp ⟨env, H⟩ o.dst v H' K
  | some (j, want) =>
    Opt (guardSlot ops j) fun d =>
    match lk env d with
    | .t (.bool c) =>
      (match want with
      | true => Br c (run ((d, .t (.bool true)) :: env) fun v H' => stp ⟨(d, .t (.bool true)) :: env, H⟩ o.dst v H' K) (stp ⟨(d, .t (.bool false)) :: env, H⟩ o.dst (.tup []) H K)
      | false => Br c (stp ⟨(d, .t (.bool true)) :: env, H⟩ o.dst (.tup []) H K) (run ((d, .t (.bool false)) :: env) fun v H' => stp ⟨(d, .t (.bool false)) :: env, H⟩ o.dst v H' K))
    | .tup [] => stp ⟨env, H⟩ o.dst (.tup []) H K
    | _ => False

theorem xguard_gd {call : CallP} {ops : Array Oper} {o : Oper} {env : List (Nat × AV)} {H : AH} {K : St → Prop} (h : xguard tab call ops o ⟨env, H⟩ K) : gd ops o (fun e K => xop tab call o e H K) ⟨env, H⟩ K := by
  simp only [xguard, gd, stp_eq, put_eq] at h ⊢
  exact h
theorem xgR_gd {ops : Array Oper} {D : List Nat} {o : Oper} {env : List (Nat × AV)} {H : AH} {K : St → Prop} (h : xgR tab ops D o ⟨env, H⟩ K) : gd ops o (fun e K => xread tab o e (hide D H) fun v => K v H) ⟨env, H⟩ K := h

theorem gd_cases {ops : Array Oper} {o : Oper} {run : List (Nat × AV) → (AV → AH → Prop) → Prop} {env : List (Nat × AV)} {H : AH} {K : St → Prop} (h : gd ops o run ⟨env, H⟩ K) :
    (Wants ops o env ∧ ∃ e, LkEq e env ∧ run e fun v H' => K ⟨Go.Proofs.YthpkehhghcpolaaDoor.putd o.dst v e, H'⟩) ∨ (Skips ops o env ∧ ∃ e, LkEq e env ∧ K ⟨Go.Proofs.YthpkehhghcpolaaDoor.putd o.dst (.tup []) e, H⟩) := by
  simp only [gd, stp_eq, put_eq] at h
  split at h
  · rename_i hg
    exact .inl ⟨.inl hg, env, .refl _, h⟩
  · rename_i j want hg
    rw [opt_iff] at h
    obtain ⟨d, hd, h⟩ := h
    split at h
    · rename_i c hl
      split at h
      · rw [br_iff] at h
        rcases h with ⟨rfl, h⟩ | ⟨rfl, h⟩
        · exact .inl ⟨.inr ⟨j, true, d, hg, hd, hl⟩, _, .told hl rfl, h⟩
        · exact .inr ⟨⟨j, true, d, hg, hd, .inl hl⟩, _, .told hl rfl, h⟩
      · rw [br_iff] at h
        rcases h with ⟨rfl, h⟩ | ⟨rfl, h⟩
        · exact .inr ⟨⟨j, false, d, hg, hd, .inl hl⟩, _, .told hl rfl, h⟩
        · exact .inl ⟨.inr ⟨j, false, d, hg, hd, hl⟩, _, .told hl rfl, h⟩
    · rename_i hl
      exact .inr ⟨⟨j, want, d, hg, hd, .inr hl⟩, env, .refl _, h⟩
    · exact h.elim

/-- Two states agree where an operation looks. -/
structure Same (ops : Array Oper) (o : Oper) (env env' : List (Nat × AV)) : Prop where
  op : ∀ x ∈ o.op.operands.toList, opd env x = opd env' x
  guard : ∀ j want d, o.guard = some (j, want) → guardSlot ops j = some d → lk env d = lk env' d

theorem Wants.sem {ops : Array Oper} {o : Oper} {env envF : List (Nat × AV)} (h : Wants ops o env) (hsm : Same ops o env envF) {O c H a w} (hs : Sat O c ⟨envF, H⟩ a w) : Region.wanted o (yielded ops a.tmps) = true := by
  rcases h with h | ⟨j, want, d, hg, hd, hl⟩
  · simp [Region.wanted, h]
  · rw [hsm.guard j want d hg hd] at hl
    have hra := hs.env d
    rw [show lk envF d = _ from hl] at hra
    have hslot := slot_get hra.bool
    have hd' : (ops[j]?).bind (·.dst) = some d := hd
    simp [Region.wanted, hg, yielded, hd', hslot]

theorem Skips.sem {ops : Array Oper} {o : Oper} {env envF : List (Nat × AV)} (h : Skips ops o env) (hsm : Same ops o env envF) {O c H a w} (hs : Sat O c ⟨envF, H⟩ a w) : Region.wanted o (yielded ops a.tmps) = false := by
  obtain ⟨j, want, d, hg, hd, hl⟩ := h
  rw [hsm.guard j want d hg hd] at hl
  have hra := hs.env d
  have hd' : (ops[j]?).bind (·.dst) = some d := hd
  rcases hl with hl | hl
  · rw [show lk envF d = _ from hl] at hra
    have hslot := slot_get hra.bool
    simp [Region.wanted, hg, yielded, hd', hslot]
  · rw [show lk envF d = _ from hl] at hra
    have hu : a.tmps.getD d undef = .tuple #[] := by
      generalize a.tmps.getD d undef = q at hra
      cases hra with | tup _ vs hl' _ =>
      have : vs = #[] := Array.eq_empty_of_size_eq_zero (by simpa using hl'.symm)
      rw [this]
    have hyb : yielded ops a.tmps j = none := by
      rw [Array.getD_eq_getD_getElem?] at hu
      simp only [yielded, hd', Option.bind_some]
      cases hq : a.tmps[d]? with
      | none => rfl
      | some v => simp [hq] at hu; subst hu; rfl
    simp [Region.wanted, hg, hyb]

/-- What is known of a reading operation that is yet to come. -/
def Ob (tab : Tab) (ops : Array Oper) (o : Oper) (env : List (Nat × AV)) (H : AH) (v : AV) : Prop :=
  (Wants ops o env ∧ xread tab o env H fun u => u = v) ∨ (Skips ops o env ∧ v = .tup [])

theorem ob_of {ops : Array Oper} {D : List Nat} {o : Oper} {env : List (Nat × AV)} {H : AH} {K : St → Prop} (h : xgR tab ops D o ⟨env, H⟩ K) : ∃ v e, LkEq e env ∧ Ob tab ops o env (hide D H) v ∧ K ⟨Go.Proofs.YthpkehhghcpolaaDoor.putd o.dst v e, H⟩ := by
  rcases gd_cases (xgR_gd h) with ⟨hw, e, he, h⟩ | ⟨hw, e, he, h⟩
  · obtain ⟨v, h1, h2⟩ := d_read.ex h
    exact ⟨v, e, he, .inl ⟨hw, xread_le (.refl _) (fun x _ => opd_lk he x) h1⟩, h2⟩
  · exact ⟨_, e, he, .inr ⟨hw, rfl⟩, h⟩

theorem ob_le {ops : Array Oper} {o : Oper} {env : List (Nat × AV)} {H H' : AH} {v : AV} (hl : Le H H') (h : Ob tab ops o env H v) : Ob tab ops o env H' v :=
  h.imp (fun h => ⟨h.1, xread_le hl (fun _ _ => rfl) h.2⟩) id

/-- No block gets a place that had none. -/
def Stays (c c' : Cx) (H : AH) : Prop := ∀ b blk, H[b]? = some blk → blk.fix = true → c.G b = none → c'.G b = none

theorem ob_step (hT : TabOK P tab) {O : Org} {ops : Array Oper} {D : List Nat} {o : Oper} {env envF : List (Nat × AV)} {H : AH} {v : AV} (h : Ob tab ops o env (hide D H) v) (hsm : Same ops o env envF) (hd : dstOK O.N o = true) {c : Cx} {a : Act} {w : World}
    (hs : Sat O c ⟨envF, H⟩ a w) {next : Act → World → Prop} {Q : Exit → Act → World → Prop} (hn : ∀ c' a' w', Sat O c' ⟨Go.Proofs.YthpkehhghcpolaaDoor.putd o.dst v envF, H⟩ a' w' → Stays c c' H → next a' w') :
    if Region.wanted o (yielded ops a.tmps) then o.wp P a w next Q else next (a.put o.dst undef) w := by
  have hd := dstOK_spec hd
  rcases h with ⟨hw, h⟩ | ⟨hw, rfl⟩
  · rw [if_pos (hw.sem hsm hs)]
    refine xop_ok (K := fun u H' => u = v ∧ H' = H) hT (xread_op (d_read.mono (fun u e => ⟨e, rfl⟩) (xread_le (.hide D H) hsm.op h))) hs.hs hs.env fun u val w' c' H' h1 h2 h3 h4 h5 => ?_
    obtain ⟨rfl, rfl⟩ := h5
    exact hn c' _ _ ((hs.go h3 h2 h4).putd o.dst hd h1) h3.late
  · rw [if_neg (by simp [hw.sem hsm hs])]
    exact hn c _ _ (hs.putd o.dst hd (v := .tup []) (.tup [] #[] rfl (by simp))) fun _ _ _ _ h => h

/-- What is known of a block that the walk has laid, and the model not yet. -/
def ObM (tab : Tab) (ops : Array Oper) (O : Org) (D : List Nat) (o : Oper) (env : List (Nat × AV)) (H : AH) (c : Cx) (v : AV) : Prop :=
  (Wants ops o env ∧ ∃ n mk blk, v = mk n ∧ xmake tab o env (fun m b => m = mk ∧ b = blk) ∧ H[n]? = some blk ∧ blk ≠ .dead ∧ (blk.fix = true → c.G n = none) ∧ O.H0.length ≤ n) ∨ (Skips ops o env ∧ v = .tup [])

/-- The block that an operation's value leads to. -/
def nameOf : AV → Option Nat
  | .ptr b _ _ _ => some b
  | .sl b _ _ _ => some b
  | _ => none

theorem make_blk {o : Oper} {env : List (Nat × AV)} {mk : Nat → AV} {blk : Blk} (h : xmake tab o env (fun m b => m = mk ∧ b = blk)) : blk ≠ .dead ∧ ∀ n, nameOf (mk n) = some n := by
  unfold xmake at h
  split at h
  · simp only [opt_iff, ck_iff] at h
    obtain ⟨y, hy, zs, hz, hc, h⟩ := h
    split at h
    · obtain ⟨rfl, rfl⟩ := h; exact ⟨by simp, fun n => rfl⟩
    · obtain ⟨rfl, rfl⟩ := h; exact ⟨by simp, fun n => rfl⟩
  · rw [ck_iff] at h
    obtain ⟨_, rfl, rfl⟩ := h
    exact ⟨by simp, fun n => rfl⟩
  · rw [opt_iff] at h
    obtain ⟨y, hy, h⟩ := h
    split at h
    · simp only [opt_iff, ck_iff] at h
      obtain ⟨z, hz, l, hl, hc, rfl, rfl⟩ := h
      exact ⟨by simp, fun n => rfl⟩
    · exact h.elim
  · rw [opt_iff] at h
    obtain ⟨y, hy, h⟩ := h
    split at h
    · simp only [opt_iff, ck_iff] at h
      obtain ⟨z, hz, zs, hzs, hc, hn, rfl, rfl⟩ := h
      exact ⟨by simp, fun n => rfl⟩
    · exact h.elim
  · exact h.elim

theorem obM_step (hT : TabOK P tab) {O : Org} {ops : Array Oper} {D : List Nat} {o : Oper} {env envF : List (Nat × AV)} {H : AH} {v : AV} {c : Cx} (h : ObM tab ops O D o env H c v) (hsm : Same ops o env envF) (hd : dstOK O.N o = true) {a : Act} {w : World}
    (hs : Sat O c ⟨envF, H⟩ a w) {next : Act → World → Prop} {Q : Exit → Act → World → Prop}
    (hn : ∀ c' a' w', Sat O c' ⟨Go.Proofs.YthpkehhghcpolaaDoor.putd o.dst v envF, H⟩ a' w' → (∀ b, nameOf v ≠ some b → c.G b = none → c'.G b = none) → next a' w') :
    if Region.wanted o (yielded ops a.tmps) then o.wp P a w next Q else next (a.put o.dst undef) w := by
  have hd := dstOK_spec hd
  rcases h with ⟨hw, n, mk, blk, rfl, hmk, hb, hnd, hg, hO⟩ | ⟨hw, rfl⟩
  · rw [if_pos (hw.sem hsm hs)]
    obtain ⟨_, hname⟩ := make_blk hmk
    obtain ⟨mk', blk', val, obj, hrun, hf, rfl, rfl⟩ := mk_ok hT (xmake_env hsm.op hmk) hs.env
    obtain ⟨c', ew, hs', hra, hst⟩ := late_ok hs.hs hb hg hf
    unfold Oper.wp
    rw [hrun, Oper.upon_value]
    refine hn c' _ _ (Sat.putd ⟨fun t => (hs.env t).ew ew, hs', hs.size, hs.defers, hs.ev.transW ew fun b hlt hb => hst b (by omega) hb, hs.below.trans (below_new hs.hs.hB _)⟩ o.dst hd hra) fun b hne hb => hst b (fun e => hne (by rw [e]; exact hname n)) hb
  · rw [if_neg (by simp [hw.sem hsm hs])]
    exact hn c _ _ (hs.putd o.dst hd (v := .tup []) (.tup [] #[] rfl (by simp))) fun _ _ h => h

/-- With the same operands, the same is done. -/
theorem xop_env {call : CallP} {o : Oper} {env env' : List (Nat × AV)} {H : AH} {K : AV → AH → Prop} (he : ∀ x ∈ o.op.operands.toList, opd env x = opd env' x) (h : xop tab call o env H K) : xop tab call o env' H K := by
  unfold xop at h ⊢
  generalize o.op = p at h he ⊢
  cases p <;> simp only at h ⊢ <;> first | exact h | skip
  case move x => rw [← he x (by simp [Op.operands])]; exact h
  case assign x => rw [← he x (by simp [Op.operands])]; exact h
  case pick c a b => rw [← he c (by simp [Op.operands]), ← he a (by simp [Op.operands]), ← he b (by simp [Op.operands])]; exact h
  case box t x => rw [← he x (by simp [Op.operands])]; exact h
  case build t ps => rw [← parts_env (env := env) (fun x hx => he x (by simpa [Op.operands] using hx))]; exact h
  case buildSlice t n ps => rw [← parts_env (env := env) (fun x hx => he x (by simpa [Op.operands] using hx))]; exact h
  case load t a => rw [← he a (by simp [Op.operands])]; exact h
  case store t a v => rw [← he a (by simp [Op.operands]), ← he v (by simp [Op.operands])]; exact h
  case nilCheck x => rw [← he x (by simp [Op.operands])]; exact h
  case binOp op t x y t2 => rw [← he x (by simp [Op.operands]), ← he y (by simp [Op.operands])]; exact h
  case unOp op t x => rw [← he x (by simp [Op.operands])]; exact h
  case convert t u x => rw [← he x (by simp [Op.operands])]; exact h
  case makeInterface t x => rw [← he x (by simp [Op.operands])]; exact h
  case makeFunc f a b =>
    have e1 : a.toList.map (opd env) = a.toList.map (opd env') := List.map_congr_left fun x hx => he x (by simp [Op.operands] at hx ⊢; simp [hx])
    have e2 : b.toList.map (opd env) = b.toList.map (opd env') := List.map_congr_left fun x hx => he x (by simp [Op.operands] at hx ⊢; simp [hx])
    rw [← e1, ← e2]; exact h
  case makeSlice t a b => rw [← he a (by simp [Op.operands]), ← he b (by simp [Op.operands])]; exact h
  case slice t x lo hi mx =>
    rw [← he x (by simp [Op.operands]), ← map_env (env := env) (o := lo) (fun x hx => he x (by simp [Op.operands] at hx ⊢; simp [hx])), ← map_env (env := env) (o := hi) (fun x hx => he x (by simp [Op.operands] at hx ⊢; simp [hx])),
      ← map_env (env := env) (o := mx) (fun x hx => he x (by simp [Op.operands] at hx ⊢; simp [hx]))]
    exact h
  case fieldAddr t x k => rw [← he x (by simp [Op.operands])]; exact h
  case field t x k => rw [← he x (by simp [Op.operands])]; exact h
  case indexAddr t x i => rw [← he x (by simp [Op.operands]), ← he i (by simp [Op.operands])]; exact h
  case index t x i => rw [← he x (by simp [Op.operands]), ← he i (by simp [Op.operands])]; exact h
  case extract x i => rw [← he x (by simp [Op.operands])]; exact h
  case range t x => rw [← he x (by simp [Op.operands])]; exact h
  case next x st => rw [← he x (by simp [Op.operands])]; exact h
  case call c =>
    unfold xcall at h ⊢
    have ha : ∀ x ∈ c.args.toList, opd env x = opd env' x := fun x hx => he x (by simp [Op.operands, Call.operands] at hx ⊢; simp [hx])
    have hm : c.args.toList.map (opd env) = c.args.toList.map (opd env') := List.map_congr_left ha
    generalize hc : c.callee = cc at h ⊢
    cases cc <;> simp only at h ⊢ <;> first | exact h.elim | skip
    · rename_i f
      rw [← he f (by simp [Op.operands, Call.operands, hc]), ← hm]
      exact h
    · rename_i b
      split at h
      · rename_i h1 h2
        try simp only [h1, h2]
        rw [← ha _ (by rw [h2]; simp)]
        exact h
      · rename_i h1 h2
        try simp only [h1, h2]
        rw [← ha _ (by rw [h2]; simp), ← ha _ (by rw [h2]; simp)]
        exact h
      · rename_i h1 h2
        try simp only [h1, h2]
        rw [← ha _ (by rw [h2]; simp)]
        exact h
      · rename_i h1 h2
        try simp only [h1, h2]
        rw [← ha _ (by rw [h2]; simp), ← ha _ (by rw [h2]; simp)]
        exact h
      · rename_i h2
        try simp only [h2]
        rw [← ha _ (by rw [h2]; simp), ← ha _ (by rw [h2]; simp)]
        exact h
      · rename_i h2
        try simp only [h2]
        rw [← ha _ (by rw [h2]; simp), ← ha _ (by rw [h2]; simp)]
        exact h
      · exact h.elim

theorem ch_step (hT : TabOK P tab) {O : Org} {ops : Array Oper} {o : Oper} {env envF : List (Nat × AV)} {H : AH} {K : St → Prop} (h : xguard tab (CallS P) ops o ⟨env, H⟩ K) (hsm : Same ops o env envF) (hd : dstOK O.N o = true) {c : Cx} {a : Act} {w : World}
    (hs : Sat O c ⟨envF, H⟩ a w) {next : Act → World → Prop} {Q : Exit → Act → World → Prop}
    (hn : ∀ v c' H' a' w' e, Sat O c' ⟨Go.Proofs.YthpkehhghcpolaaDoor.putd o.dst v envF, H'⟩ a' w' → Stays c c' H → LkEq e env → K ⟨Go.Proofs.YthpkehhghcpolaaDoor.putd o.dst v e, H'⟩ → next a' w') :
    if Region.wanted o (yielded ops a.tmps) then o.wp P a w next Q else next (a.put o.dst undef) w := by
  have hd := dstOK_spec hd
  rcases gd_cases (xguard_gd h) with ⟨hw, e, he, h⟩ | ⟨hw, e, he, h⟩
  · rw [if_pos (hw.sem hsm hs)]
    refine xop_ok hT (xop_env (fun x hx => (opd_lk he x).trans (hsm.op x hx)) h) hs.hs hs.env fun u val w' c' H' h1 h2 h3 h4 h5 => ?_
    exact hn u c' H' _ _ e ((hs.go h3 h2 h4).putd o.dst hd h1) h3.late he h5
  · rw [if_neg (by simp [hw.sem hsm hs])]
    exact hn (.tup []) c H _ _ e (hs.putd o.dst hd (v := .tup []) (.tup [] #[] rfl (by simp))) (fun _ _ _ _ h => h) he h

end
end Go.Proofs.YthpkehhghcpolaaDoor

namespace Go.Proofs.YthpkehhghcpolaaDoor
open Go.RowKit
set_option linter.unusedVariables false
set_option linter.unusedSimpArgs false

def wenv (ops : Array Oper) (env0 : List (Nat × AV)) : List (Nat × AV) → List (Nat × AV)
  | [] => env0
  | (i, v) :: r => putd (guardSlot ops i) v (wenv ops env0 r)

theorem lk_wenv_skip {ops : Array Oper} {env0 : List (Nat × AV)} {L : Nat → Bool} {t : Nat} {Z : List (Nat × AV)} : ∀ {X : List (Nat × AV)}, (∀ e ∈ X, guardSlot ops e.1 = some t → L e.1 = false) →
    lk (wenv ops env0 ((X ++ Z).filter fun e => L e.1)) t = lk (wenv ops env0 (Z.filter fun e => L e.1)) t
  | [], _ => rfl
  | (j, v) :: r, h => by
    have ih := lk_wenv_skip (env0 := env0) (Z := Z) (X := r) fun e he => h e (by simp [he])
    rw [List.cons_append, List.filter_cons]
    cases hL : L j with
    | false => simpa using ih
    | true =>
      simp only [if_true, wenv, lk_putd]
      rw [if_neg (fun hs => by have := h (j, v) (by simp) hs; simp only at this; rw [hL] at this; cases this)]
      exact ih

theorem lk_wenv_all {ops : Array Oper} {env0 : List (Nat × AV)} {L : Nat → Bool} {t : Nat} : ∀ {Y : List (Nat × AV)}, (∀ e ∈ Y, guardSlot ops e.1 = some t → L e.1 = true) →
    lk (wenv ops env0 (Y.filter fun e => L e.1)) t = lk (wenv ops env0 Y) t
  | [], _ => rfl
  | (j, v) :: r, h => by
    have ih := lk_wenv_all (env0 := env0) (Y := r) fun e he => h e (by simp [he])
    rw [List.filter_cons]
    cases hL : L j with
    | true => simp only [if_true, wenv, lk_putd, ih]
    | false =>
      simp only [Bool.false_eq_true, if_false, wenv, lk_putd]
      rw [if_neg (fun hs => by have := h (j, v) (by simp) hs; simp only at this; rw [hL] at this; cases this)]
      exact ih

theorem lk_wenv_put {ops : Array Oper} {env0 : List (Nat × AV)} {L L' : Nat → Bool} {i : Nat} {v : AV} (hi : L i = false) (hi' : L' i = true) (ho : ∀ j, j ≠ i → L' j = L j) {Y : List (Nat × AV)} (hY : ∀ e ∈ Y, e.1 ≠ i) : ∀ {X : List (Nat × AV)}, (∀ e ∈ X, e.1 ≠ i) →
    (∀ e ∈ X, ∀ t, guardSlot ops e.1 = some t → guardSlot ops i = some t → L e.1 = false) →
    LkEq (wenv ops env0 ((X ++ (i, v) :: Y).filter fun e => L' e.1)) (putd (guardSlot ops i) v (wenv ops env0 ((X ++ (i, v) :: Y).filter fun e => L e.1)))
  | [], _, _ => by
    have : Y.filter (fun e => L' e.1) = Y.filter fun e => L e.1 := List.filter_congr fun e he => ho e.1 (hY e he)
    simp only [List.nil_append, List.filter_cons, hi, hi', if_true, wenv, this]
    simp [LkEq.refl]
  | (j, u) :: r, hX, hs => by
    have ih := lk_wenv_put (v := v) (env0 := env0) hi hi' ho hY (X := r) (fun e he => hX e (by simp [he])) (fun e he => hs e (by simp [he]))
    have hj : j ≠ i := hX (j, u) (by simp)
    intro t
    simp only [List.cons_append, List.filter_cons, ho j hj]
    cases hL : L j with
    | false => simpa using ih t
    | true =>
      have hne : ∀ t, guardSlot ops j = some t → guardSlot ops i ≠ some t := fun t h1 h2 => by
        have := hs (j, u) (by simp) t h1 h2; simp only at this; rw [hL] at this; cases this
      simp only [if_true, wenv, lk_putd]
      rw [ih t, lk_putd]
      by_cases h1 : guardSlot ops j = some t
      · rw [if_pos h1, if_neg (hne t h1), if_pos h1]
      · rw [if_neg h1, if_neg h1]

/-- The walked operations, the last first, are in an order in which they can be walked. -/
def DoneOK (ops : Array Oper) (ms : List Nat) : List Nat → Prop
  | [] => True
  | i :: r => (∃ oi, ops[i]? = some oi ∧ (∀ j ∈ binders oi, j ∈ r) ∧ ∀ j ∈ r, i ≠ j ∧ ((ms.getD i 0).testBit j = true ∨ (∃ oj, ops[j]? = some oj ∧ apartOps ops oj oi = true) ∨ chainB ops j = true)) ∧ DoneOK ops ms r

theorem drawOK_step {ops : Array Oper} {ms : List Nat} {i : Nat} {un : List Nat} {r : Ord} {R : List (Nat × Nat)} {done : List Nat} (h : drawOK ops ms (.op i un r) R done = true) (hd : DoneOK ops ms done) :
    DoneOK ops ms (i :: done) ∧ (chainB ops i = true → ∀ j ∈ done, (ms.getD i 0).testBit j = true ∨ chainB ops j = true ∨ j ∈ un) ∧ drawOK ops ms r R (i :: done) = true := by
  simp only [drawOK, Bool.and_eq_true] at h
  obtain ⟨h1, h2⟩ := h
  cases ho : ops[i]? with
  | none => rw [ho] at h1; cases h1
  | some oi =>
    rw [ho] at h1
    simp only [Bool.and_eq_true, List.all_eq_true, Bool.or_eq_true, Bool.not_eq_true'] at h1
    obtain ⟨⟨b1, b2⟩, b3⟩ := h1
    refine ⟨⟨⟨oi, ho, fun j hj => by simpa using b1 j hj, fun j hj => ⟨fun e => ?_, ?_⟩⟩, hd⟩, fun hf j hj => ?_, h2⟩
    · have := (b2 j hj).1; subst e; simp at this
    · rcases (b2 j hj).2 with (h | h) | h
      · exact .inl h
      · refine .inr (.inl ?_)
        split at h
        · rename_i oj hoj; exact ⟨oj, hoj, h⟩
        · cases h
      · exact .inr (.inr h.2)
    · rcases b3 with h | h
      · rw [hf] at h; cases h
      · rcases h j hj with (h | h) | h
        · exact .inl h
        · exact .inr (.inl h)
        · exact .inr (.inr (by simpa using h))

theorem doneOK_split {ops : Array Oper} {ms : List Nat} {i : Nat} {Y : List Nat} : ∀ {X : List Nat}, DoneOK ops ms (X ++ i :: Y) → DoneOK ops ms (i :: Y) ∧
    ∀ k ∈ X, k ≠ i ∧ ((ms.getD k 0).testBit i = true ∨ (∃ oi ok, ops[i]? = some oi ∧ ops[k]? = some ok ∧ apartOps ops oi ok = true) ∨ chainB ops i = true)
  | [], h => ⟨h, by simp⟩
  | k :: r, h => by
    obtain ⟨⟨ok, hok, h1, h2⟩, h3⟩ := h
    obtain ⟨h4, h5⟩ := doneOK_split (X := r) h3
    refine ⟨h4, fun q hq => ?_⟩
    rcases List.mem_cons.1 hq with rfl | hq
    · obtain ⟨b1, b2⟩ := h2 i (by simp)
      refine ⟨b1, b2.imp id (Or.imp (fun ⟨oi, a, b⟩ => ⟨oi, ok, a, hok, b⟩) id)⟩
    · exact h5 q hq

theorem apart_spec {ops : Array Oper} {oj oi : Oper} (h : apartOps ops oj oi = true) : (isRd oj || isMk oj) = true ∧ (∀ d, oj.dst = some d → d ∉ oi.looksAt ops) ∧ (∀ d, oi.dst = some d → d ∉ oj.looksAt ops ∧ oj.dst ≠ some d) := by
  simp only [apartOps, Bool.and_eq_true] at h
  obtain ⟨⟨h1, h2⟩, h3⟩ := h
  refine ⟨h1, fun d hd => ?_, fun d hd => ?_⟩
  · rw [hd] at h2; simpa using h2
  · rw [hd] at h3
    simp only [Bool.and_eq_true, Bool.not_eq_true'] at h3
    refine ⟨by simpa using h3.1, fun e => ?_⟩
    rw [e] at h3
    simp at h3

theorem slot_dst {ops : Array Oper} {i : Nat} {o : Oper} (h : ops[i]? = some o) : guardSlot ops i = o.dst := by simp [guardSlot, h]

theorem mem_looks {ops : Array Oper} {o : Oper} {t : Nat} (h : .tmp t ∈ o.op.operands.toList) : t ∈ o.looksAt ops := by
  simp only [Oper.looksAt, List.mem_append, List.mem_filterMap]
  exact .inl ⟨_, h, rfl⟩

theorem guard_looks {ops : Array Oper} {o : Oper} {j : Nat} {want : Bool} {d : Nat} (h : o.guard = some (j, want)) (hd : guardSlot ops j = some d) : d ∈ o.looksAt ops := by
  simp only [Oper.looksAt, List.mem_append, h]
  refine .inr ?_
  rw [show ops[j]?.bind (·.dst) = some d from hd]
  simp

theorem same_of {ops : Array Oper} {o : Oper} {env env' : List (Nat × AV)} (h : ∀ t ∈ o.looksAt ops, lk env t = lk env' t) : Same ops o env env' :=
  ⟨fun x hx => by cases x <;> first | rfl | exact h _ (mem_looks hx), fun j want d hg hd => h d (guard_looks hg hd)⟩

theorem countP_upd {p p' : Nat → Bool} {i : Nat} (hp : p i = true) (hp' : p' i = false) (he : ∀ j, j ≠ i → p' j = p j) : ∀ {l : List Nat}, l.Nodup → i ∈ l → l.countP p = l.countP p' + 1
  | [], _, h => by cases h
  | k :: r, hn, h => by
    rw [List.nodup_cons] at hn
    rw [List.countP_cons, List.countP_cons]
    rcases List.mem_cons.1 h with rfl | h
    · have : r.countP p = r.countP p' := List.countP_congr fun j hj => by rw [he j (fun e => hn.1 (e ▸ hj))]
      simp [hp, hp', this]
    · have ih := countP_upd hp hp' he hn.2 h
      have : p' k = p k := he k fun e => hn.1 (e ▸ h)
      rw [ih, this]
      omega

section
variable {P : Program} {tab : Tab}

theorem same_env {ops : Array Oper} {o : Oper} {e e' : List (Nat × AV)} (h : LkEq e e') {H : AH} {v : AV} (k : Ob tab ops o e H v) : Ob tab ops o e' H v := by
  refine k.imp (fun k => ⟨?_, xread_le (.refl _) (fun x _ => opd_lk h x) k.2⟩) fun k => ⟨?_, k.2⟩
  · rcases k.1 with k | ⟨j, want, d, a, b, c⟩
    · exact .inl k
    · exact .inr ⟨j, want, d, a, b, by rw [← h d]; exact c⟩
  · obtain ⟨j, want, d, a, b, c⟩ := k.1
    exact ⟨j, want, d, a, b, by rw [← h d]; exact c⟩

theorem same_envM {O : Org} {D : List Nat} {ops : Array Oper} {o : Oper} {e e' : List (Nat × AV)} (h : LkEq e e') {H : AH} {c : Cx} {v : AV} (k : ObM tab ops O D o e H c v) : ObM tab ops O D o e' H c v := by
  rcases k with ⟨k1, n, mk, blk, a1, a2, a3⟩ | k
  · refine .inl ⟨?_, n, mk, blk, a1, xmake_env (fun x _ => opd_lk h x) a2, a3⟩
    rcases k1 with k | ⟨j, want, d, a, b, c⟩
    · exact .inl k
    · exact .inr ⟨j, want, d, a, b, by rw [← h d]; exact c⟩
  · obtain ⟨j, want, d, a, b, c⟩ := k.1
    exact .inr ⟨⟨j, want, d, a, b, by rw [← h d]; exact c⟩, k.2⟩

theorem obM_go {O : Org} {D : List Nat} {ops : Array Oper} {o : Oper} {e : List (Nat × AV)} {H H' : AH} {c c' : Cx} {v : AV} (k : ObM tab ops O D o e H c v) (hl : ∀ n blk, nameOf v = some n → H[n]? = some blk → blk ≠ .dead → H'[n]? = some blk)
    (hst : ∀ n blk, nameOf v = some n → H[n]? = some blk → blk.fix = true → c.G n = none → c'.G n = none) : ObM tab ops O D o e H' c' v := by
  rcases k with ⟨k1, n, mk, blk, a1, a2, a3, a4, a5, a6⟩ | k
  case inr => exact .inr k
  refine .inl ⟨k1, n, mk, blk, a1, a2, ?_, a4, fun hf => ?_, a6⟩
  · exact hl n blk (by rw [a1]; exact (make_blk a2).2 n) a3 a4
  · exact hst n blk (by rw [a1]; exact (make_blk a2).2 n) a3 hf (a5 hf)

structure Inv (P : Program) (tab : Tab) (ops : Array Oper) (ms : List Nat) (D : Nat → List Nat) (env0 : List (Nat × AV)) (O : Org) (K : St → Prop) (L : Nat → Bool) (W : List (Nat × AV)) (rest : Ord) (R : List (Nat × Nat)) (H : AH) (c : Cx) (a : Act) (w : World) : Prop where
  sat : Sat O c ⟨wenv ops env0 (W.filter fun e => L e.1), H⟩ a w
  closed : Closed ops L
  sub : ∀ i, L i = true → i ∈ W.map Prod.fst
  obl : ∀ X i v Y o, W = X ++ (i, v) :: Y → L i = false → ops[i]? = some o → (isRd o = true ∧ Ob tab ops o (wenv ops env0 Y) (hide (D i) H) v) ∨ (isMk o = true ∧ ObM tab ops O (D i) o (wenv ops env0 Y) H c v)
  uniq : ∀ i j v u n oi oj, (i, v) ∈ W → (j, u) ∈ W → i ≠ j → L i = false → L j = false → ops[i]? = some oi → ops[j]? = some oj → isMk oi = true → isMk oj = true → nameOf v = some n → nameOf u ≠ some n
  walk : ∃ e, LkEq e (wenv ops env0 W) ∧ xdr tab (CallS P) ops D rest ⟨e, H⟩ K
  done : DoneOK ops ms (W.map Prod.fst)
  more : drawOK ops ms rest R (W.map Prod.fst) = true
  raced : ∀ p ∈ R, p.1 ∈ W.map Prod.fst
  early : ∀ i v o n, (i, v) ∈ W → ops[i]? = some o → isMk o = true → nameOf v = some n → n ∉ D i

theorem mk_notRd {o : Oper} (h : isMk o = true) : isRd o = false := by
  unfold isMk at h
  unfold isRd
  cases ho : o.op <;> rw [ho] at h <;> simp at h <;> rfl

theorem obM_name {O : Org} {D : List Nat} {ops : Array Oper} {o : Oper} {e : List (Nat × AV)} {H : AH} {c : Cx} {v : AV} {n : Nat} (k : ObM tab ops O D o e H c v) (hn : nameOf v = some n) : ∃ blk, H[n]? = some blk := by
  rcases k with ⟨_, m, mk, blk, rfl, a2, a3, _⟩ | ⟨_, rfl⟩
  · rw [(make_blk a2).2 m] at hn
    cases hn
    exact ⟨blk, a3⟩
  · simp [nameOf] at hn

theorem Ev.len {w c H w' c' H'} (h : Ev w c H w' c' H') : H.length ≤ H'.length := by
  rcases Nat.lt_or_ge H'.length H.length with hlt | hge
  · obtain ⟨blk', hb, _⟩ := h.blk H'.length _ (List.getElem?_eq_getElem hlt)
    have := lt_of_getElem? hb
    omega
  · exact hge

/-- The reads that come next are walked. -/
theorem Inv.advance {ops : Array Oper} {ms : List Nat} {D : Nat → List Nat} {env0 : List (Nat × AV)} {O : Org} {K : St → Prop} {L : Nat → Bool} {R : List (Nat × Nat)} {c : Cx} {a : Act} {w : World} : ∀ {rest : Ord} {W : List (Nat × AV)} {H : AH},
    Inv P tab ops ms D env0 O K L W rest R H c a w → ∃ W' rest' H', Inv P tab ops ms D env0 O K L W' rest' R H' c a w ∧ (rest' = .nil ∨ (∃ q un r oq, rest' = .op q un r ∧ ops[q]? = some oq ∧ isRd oq = false ∧ isMk oq = false) ∨ ∃ a b, rest' = .race a b)
  | .nil, W, H, h => ⟨W, .nil, H, h, .inl rfl⟩
  | .race a b, W, H, h => ⟨W, .race a b, H, h, .inr (.inr ⟨a, b, rfl⟩)⟩
  | .op i un r, W, H, h => by
    obtain ⟨e, he, hw⟩ := h.walk
    simp only [xdr_op] at hw
    rw [opt_iff] at hw
    obtain ⟨o, ho, hw⟩ := hw
    obtain ⟨d1, d2, d3⟩ := drawOK_step h.more h.done
    have hnW : ∀ u, (i, u) ∉ W := fun u hu => by
      obtain ⟨_, _, _, d4⟩ := d1.1
      exact (d4 i (List.mem_map.2 ⟨_, hu, rfl⟩)).1 rfl
    have hni : L i = false := by
      cases hL : L i with
      | false => rfl
      | true =>
        have := h.sub i hL
        simp only [List.mem_map] at this
        obtain ⟨⟨j, u⟩, hu, rfl⟩ := this
        exact (hnW u hu).elim
    cases hr : isRd o with
    | true =>
      rw [hr] at hw
      obtain ⟨v, e', h1, h2, h3⟩ := ob_of hw
      refine Inv.advance (rest := r) (W := (i, v) :: W) (H := H) ⟨?_, h.closed, fun j hj => ?_, fun X j u Y oj hW hj hoj => ?_, fun j k u u' n oj ok hj hk hne lj lk hoj hok mj mk hn => ?_, ⟨_, ?_, h3⟩, by simpa using d1, by simpa using d3, fun p hp => List.mem_cons_of_mem _ (h.raced p hp), fun q x oq n hq hoq mq hn => (by
          rcases List.mem_cons.1 hq with e | hq
          · cases e; rw [ho] at hoq; cases hoq; rw [mk_notRd mq] at hr; cases hr
          · exact h.early q x oq n hq hoq mq hn)⟩
      · rw [List.filter_cons, hni]
        simpa using h.sat
      · simp only [List.map_cons, List.mem_cons]; exact .inr (h.sub j hj)
      · cases X with
        | nil =>
          simp only [List.nil_append, List.cons.injEq, Prod.mk.injEq] at hW
          obtain ⟨⟨rfl, rfl⟩, rfl⟩ := hW
          rw [ho] at hoj; cases hoj
          exact .inl ⟨hr, same_env he h2⟩
        | cons x X =>
          simp only [List.cons_append, List.cons.injEq] at hW
          exact h.obl X j u Y oj hW.2 hj hoj
      · have notI : ∀ {q ok x}, ops[q]? = some ok → isMk ok = true → (q, x) ∈ (i, v) :: W → (q, x) ∈ W := fun {q ok x} h1 h2 h3 => by
          rcases List.mem_cons.1 h3 with e | h3
          · cases e
            rw [ho] at h1; cases h1
            rw [mk_notRd h2] at hr; cases hr
          · exact h3
        exact h.uniq j k u u' n oj ok (notI hoj mj hj) (notI hok mk hk) hne lj lk hoj hok mj mk hn
      · simp only [wenv, slot_dst ho]
        exact (h1.trans he).putd _ _
    | false =>
      rw [hr] at hw
      simp only at hw
      cases hm : isMk o with
      | false => exact ⟨W, .op i un r, H, h, .inr (.inl ⟨i, un, r, o, rfl, ho, hr, hm⟩)⟩
      | true =>
        rw [hm] at hw
        simp only at hw
        rw [ck_iff] at hw
        obtain ⟨hD, hw⟩ := hw
        have hD : H.length ∉ D i := by simpa using hD
        rcases gd_cases (xguard_gd hw) with ⟨hwt, e', h1, h2⟩ | ⟨hwt, e', h1, h3⟩
        · obtain ⟨mk, blk, hmk, h3⟩ := xop_make hm h2
          obtain ⟨ev, hs'⟩ := new_none h.sat.hs blk
          obtain ⟨hnd, hname⟩ := make_blk hmk
          refine Inv.advance (rest := r) (W := (i, mk H.length) :: W) (H := H ++ [blk]) ⟨?_, h.closed, fun j hj => ?_, fun X j u Y oj hW hj hoj => ?_, fun j k u u' n oj ok hj hk hne lj lk hoj hok mj mk' hn => ?_, ⟨_, ?_, h3⟩, by simpa using d1, by simpa using d3, fun p hp => List.mem_cons_of_mem _ (h.raced p hp), fun q x oq n hq hoq mq hn => (by
              rcases List.mem_cons.1 hq with e | hq
              · cases e; rw [hname] at hn; cases hn; exact hD
              · exact h.early q x oq n hq hoq mq hn)⟩
          · rw [List.filter_cons, hni]
            exact h.sat.go ev hs' (Below.refl _ _)
          · simp only [List.map_cons, List.mem_cons]; exact .inr (h.sub j hj)
          · cases X with
            | nil =>
              simp only [List.nil_append, List.cons.injEq, Prod.mk.injEq] at hW
              obtain ⟨⟨rfl, rfl⟩, rfl⟩ := hW
              rw [ho] at hoj; cases hoj
              refine .inr ⟨hm, same_envM he (.inl ⟨hwt, H.length, mk, blk, rfl, xmake_env (fun x _ => opd_lk h1 x) hmk, getElem?_snoc_eq, hnd, fun _ => h.sat.hs.dom', h.sat.ev.len⟩)⟩
            | cons x X =>
              simp only [List.cons_append, List.cons.injEq] at hW
              refine (h.obl X j u Y oj hW.2 hj hoj).imp (fun h => ⟨h.1, ob_le (LeX.append _ H [blk]).le h.2⟩) fun h => ⟨h.1, obM_go h.2 (fun n b _ hb _ => by rw [getElem?_snoc_lt (lt_of_getElem? hb)]; exact hb) fun _ _ _ _ _ h => h⟩
          · have old : ∀ {q oq x m}, (q, x) ∈ W → L q = false → ops[q]? = some oq → isMk oq = true → nameOf x = some m → m < H.length := fun {q oq x m} hq lq hoq mq hn => by
              obtain ⟨X, Y, hW⟩ := List.append_of_mem hq
              rcases h.obl X q x Y oq hW lq hoq with h | h
              · rw [mk_notRd mq] at h; cases h.1
              · obtain ⟨blk, hb⟩ := obM_name h.2 hn
                exact lt_of_getElem? hb
            rcases List.mem_cons.1 hj with e1 | hj <;> rcases List.mem_cons.1 hk with e2 | hk
            · cases e1; cases e2; exact (hne rfl).elim
            · cases e1
              rw [hname] at hn; cases hn
              exact fun hh => by have := old hk lk hok mk' hh; omega
            · cases e2
              rw [hname]
              exact fun hh => by have := old hj lj hoj mj hn; cases hh; omega
            · exact h.uniq j k u u' n oj ok hj hk hne lj lk hoj hok mj mk' hn
          · simp only [wenv, slot_dst ho]
            exact (h1.trans he).putd _ _
        · refine Inv.advance (rest := r) (W := (i, .tup []) :: W) (H := H) ⟨?_, h.closed, fun j hj => ?_, fun X j u Y oj hW hj hoj => ?_, fun j k u u' n oj ok hj hk hne lj lk hoj hok mj mk' hn => ?_, ⟨_, ?_, h3⟩, by simpa using d1, by simpa using d3, fun p hp => List.mem_cons_of_mem _ (h.raced p hp), fun q x oq n hq hoq mq hn => (by
              rcases List.mem_cons.1 hq with e | hq
              · cases e; simp [nameOf] at hn
              · exact h.early q x oq n hq hoq mq hn)⟩
          · rw [List.filter_cons, hni]
            simpa using h.sat
          · simp only [List.map_cons, List.mem_cons]; exact .inr (h.sub j hj)
          · cases X with
            | nil =>
              simp only [List.nil_append, List.cons.injEq, Prod.mk.injEq] at hW
              obtain ⟨⟨rfl, rfl⟩, rfl⟩ := hW
              rw [ho] at hoj; cases hoj
              exact .inr ⟨hm, same_envM he (.inr ⟨hwt, rfl⟩)⟩
            | cons x X =>
              simp only [List.cons_append, List.cons.injEq] at hW
              exact h.obl X j u Y oj hW.2 hj hoj
          · rcases List.mem_cons.1 hj with e1 | hj <;> rcases List.mem_cons.1 hk with e2 | hk
            · cases e1; cases e2; exact (hne rfl).elim
            · cases e1; simp [nameOf] at hn
            · cases e2; simp [nameOf]
            · exact h.uniq j k u u' n oj ok hj hk hne lj lk hoj hok mj mk' hn
          · simp only [wenv, slot_dst ho]
            exact (h1.trans he).putd _ _

end

end Go.Proofs.YthpkehhghcpolaaDoor

namespace Go.Proofs.YthpkehhghcpolaaDoor
open Go.RowKit
set_option linter.unusedVariables false
set_option linter.unusedSimpArgs false

section
variable {P : Program} {tab : Tab} {ops : Array Oper} {ms : List Nat} {D : Nat → List Nat}

theorem ready_of {listed : Array Bool} (hsz : listed.size = ops.size) {i : Nat} {o : Oper} (ho : ops[i]? = some o) (hl : listed.getD i false = false) (hb : ∀ j ∈ binders o, listed.getD j false = true) : i ∈ Region.ready .any ops listed := by
  have hlt : i < listed.size := by rw [hsz]; exact (Array.getElem?_eq_some_iff.1 ho).1
  rw [mem_ready]
  refine ⟨?_, o, ho, fun e he hbe => hb e.on ?_⟩
  · simp only [Array.getD_eq_getD_getElem?, Array.getElem?_eq_getElem hlt, Option.getD_some] at hl ⊢; exact hl
  · simp only [binders, List.mem_map, List.mem_filter]
    exact ⟨e, ⟨by simpa using he, hbe⟩, rfl⟩

theorem of_ready {listed : Array Bool} (hsz : listed.size = ops.size) {i : Nat} (h : i ∈ Region.ready .any ops listed) : ∃ o, ops[i]? = some o ∧ listed.getD i false = false ∧ ∀ j ∈ binders o, listed.getD j false = true := by
  rw [mem_ready] at h
  obtain ⟨h0, o, ho, hall⟩ := h
  have hlt : i < listed.size := by rw [hsz]; exact (Array.getElem?_eq_some_iff.1 ho).1
  refine ⟨o, ho, ?_, fun j hj => ?_⟩
  · simp only [Array.getD_eq_getD_getElem?, Array.getElem?_eq_getElem hlt, Option.getD_some] at h0 ⊢; exact h0
  · simp only [binders, List.mem_map, List.mem_filter] at hj
    obtain ⟨e, ⟨h1, h2⟩, rfl⟩ := hj
    exact hall e (by simpa using h1) h2

theorem first_un {L : Nat → Bool} : ∀ {W : List (Nat × AV)}, (∃ e ∈ W, L e.1 = false) → ∃ X i v Y, W = X ++ (i, v) :: Y ∧ L i = false ∧ ∀ e ∈ Y, L e.1 = true
  | [], h => by simp at h
  | (j, u) :: r, h => by
    by_cases hr : ∃ e ∈ r, L e.1 = false
    · obtain ⟨X, i, v, Y, h1, h2, h3⟩ := first_un hr
      exact ⟨(j, u) :: X, i, v, Y, by rw [h1]; rfl, h2, h3⟩
    · obtain ⟨e, he, hl⟩ := h
      rcases List.mem_cons.1 he with rfl | he
      · exact ⟨[], j, u, r, rfl, hl, fun e he => by
          cases hL : L e.1 with
          | true => rfl
          | false => exact (hr ⟨e, he, hL⟩).elim⟩
      · exact (hr ⟨e, he, hl⟩).elim

theorem race_head {x : Ord} {R : List (Nat × Nat)} {done : List Nat} {i : Nat} (h : drawOK ops ms x R done = true) (hx : x.head = some i) : i ∉ done := by
  cases x with
  | op k fl r =>
    cases hx
    simp only [drawOK, Bool.and_eq_true] at h
    obtain ⟨h, _⟩ := h
    split at h
    · simp only [Bool.and_eq_true, List.all_eq_true] at h
      intro hi
      have := (h.1.2 _ hi).1
      simp at this
    · cases h
  | nil => cases hx
  | race => cases hx

theorem later_pair {i q : Nat} (hi : i < ops.size) : ∀ {r : Ord} {R : List (Nat × Nat)} {done : List Nat}, drawOK ops ms r R done = true → q ∈ done → i ∉ done →
    (ms.getD i 0).testBit q = true ∨ (∃ oq oi, ops[q]? = some oq ∧ ops[i]? = some oi ∧ apartOps ops oq oi = true) ∨ (q, i) ∈ R
  | .race a b, R, done, h, hq, hn => by
    simp only [drawOK] at h
    split at h
    · rename_i j i2 hj hi2
      simp only [Bool.and_eq_true] at h
      by_cases e : (q, i) = (j, i2)
      · rcases later_pair hi h.2 hq hn with h1 | h1 | h1
        · exact .inl h1
        · exact .inr (.inl h1)
        · rcases List.mem_cons.1 h1 with e2 | h1
          · cases e; cases e2; exact absurd hq (race_head h.2 hi2)
          · exact .inr (.inr h1)
      · rcases later_pair hi h.1.2 hq hn with h1 | h1 | h1
        · exact .inl h1
        · exact .inr (.inl h1)
        · rcases List.mem_cons.1 h1 with e2 | h1
          · exact (e e2).elim
          · exact .inr (.inr h1)
    · cases h
  | .nil, R, done, h, hq, hn => by
    simp only [drawOK, List.all_eq_true, List.mem_range] at h
    exact (hn (by simpa using h i hi)).elim
  | .op k fl r, R, done, h, hq, hn => by
    by_cases hk : k = i
    · subst hk
      simp only [drawOK, Bool.and_eq_true] at h
      cases ho : ops[k]? with
      | none => rw [ho] at h; simp at h
      | some oi =>
        rw [ho] at h
        simp only [Bool.and_eq_true, List.all_eq_true, Bool.or_eq_true] at h
        rcases (h.1.1.2 q hq).2 with (h | h) | h
        · exact .inl h
        · refine .inr (.inl ?_)
          split at h
          · rename_i oq hoq; exact ⟨oq, oi, hoq, rfl, h⟩
          · cases h
        · exact .inr (.inr (by simpa using h.1))
    · simp only [drawOK, Bool.and_eq_true] at h
      exact later_pair hi h.2 (by simp [hq]) (by simp [hn]; exact fun e => hk e.symm)

variable {env0 : List (Nat × AV)} {O : Org} {K : St → Prop}

theorem race_op {x : Ord} {i : Nat} (hx : x.head = some i) : ∃ fl r, x = .op i fl r := by
  cases x with
  | op k fl r => cases hx; exact ⟨fl, r, rfl⟩
  | nil => cases hx
  | race => cases hx

theorem race_spec {a b : Ord} {R : List (Nat × Nat)} {done : List Nat} (h : drawOK ops ms (.race a b) R done = true) :
    ∃ j fl r i fl' r', a = .op j fl r ∧ b = .op i fl' r' ∧ chainB ops j = true ∧ chainB ops i = true ∧ drawOK ops ms (.op j fl r) ((j, i) :: R) done = true ∧ drawOK ops ms (.op i fl' r') ((i, j) :: R) done = true := by
  simp only [drawOK] at h
  split at h
  · rename_i j i hj hi
    simp only [Bool.and_eq_true] at h
    obtain ⟨fl, r, rfl⟩ := race_op hj
    obtain ⟨fl', r', rfl⟩ := race_op hi
    exact ⟨j, fl, r, i, fl', r', rfl, rfl, h.1.1.1, h.1.1.2, h.1.2, h.2⟩
  · cases h

theorem chain_spec {j : Nat} (h : chainB ops j = true) : ∃ o, ops[j]? = some o ∧ isRd o = false ∧ isMk o = false := by
  unfold chainB at h
  split at h
  · rename_i o ho
    simp only [Bool.and_eq_true, Bool.not_eq_true'] at h
    exact ⟨o, ho, h.1, h.2⟩
  · cases h

/-- What writes and was walked was done by the model as well. -/
theorem Inv.chain_in {L : Nat → Bool} {W : List (Nat × AV)} {rest : Ord} {R : List (Nat × Nat)} {H : AH} {c : Cx} {a : Act} {w : World} (h : Inv P tab ops ms D env0 O K L W rest R H c a w) {j : Nat} (hj : j ∈ W.map Prod.fst) (hc : chainB ops j = true) : L j = true := by
  cases hL : L j with
  | true => rfl
  | false =>
    simp only [List.mem_map] at hj
    obtain ⟨⟨j', v⟩, hm, rfl⟩ := hj
    obtain ⟨X, Y, hW⟩ := List.append_of_mem hm
    obtain ⟨o, ho, h1, h2⟩ := chain_spec hc
    rcases h.obl X j' v Y o hW hL ho with h3 | h3
    · rw [h1] at h3; cases h3.1
    · rw [h2] at h3; cases h3.1

theorem Inv.over {Q : Exit → Act → World → Prop} (hK : Good O K (Q .normal)) {listed : Array Bool} (hsz : listed.size = ops.size) {W : List (Nat × AV)} {rest : Ord} {R : List (Nat × Nat)} {H : AH} {c : Cx} {a : Act} {w : World}
    (h : Inv P tab ops ms D env0 O K (fun i => listed.getD i false) W rest R H c a w) (hr : Region.ready .any ops listed = []) : Q .normal a w := by
  obtain ⟨W, rest, H, h, hrest⟩ := h.advance
  have hall : ∀ e ∈ W, listed.getD e.1 false = true := by
    intro e he
    cases hL : listed.getD e.1 false with
    | true => rfl
    | false =>
      obtain ⟨X, i, v, Y, hW, hi, hY⟩ := first_un (L := fun i => listed.getD i false) ⟨e, he, hL⟩
      have hd := h.done
      rw [hW, List.map_append, List.map_cons] at hd
      obtain ⟨⟨oi, ho, hb, _⟩, _⟩ := (doneOK_split hd).1
      have := ready_of hsz ho hi fun j hj => by
        have := hb j hj
        simp only [List.mem_map] at this
        obtain ⟨e', h1, rfl⟩ := this
        exact hY e' h1
      rw [hr] at this
      cases this
  have stuck : ∀ {q fl r R'}, drawOK ops ms (.op q fl r) R' (W.map Prod.fst) = true → False := by
    intro q fl r R' hmore
    obtain ⟨d1, d2, d3⟩ := drawOK_step hmore h.done
    obtain ⟨⟨oq', ho', hb, hne⟩, _⟩ := d1
    have hnl : listed.getD q false = false := by
      cases hL : listed.getD q false with
      | false => rfl
      | true => exact ((hne q (h.sub q hL)).1 rfl).elim
    have := ready_of hsz ho' hnl fun j hj => by
      have := hb j hj
      simp only [List.mem_map] at this
      obtain ⟨e', h1, rfl⟩ := this
      exact hall e' h1
    rw [hr] at this
    cases this
  rcases hrest with rfl | ⟨q, fl, r, oq, rfl, ho, hq, hqm⟩ | ⟨ra, rb, rfl⟩
  · obtain ⟨e, he, hw⟩ := h.walk
    have hf : W.filter (fun e => listed.getD e.1 false) = W := List.filter_eq_self.2 hall
    have hs := h.sat
    rw [hf] at hs
    exact hK _ c a w (hs.lkeq he) hw
  · exact (stuck h.more).elim
  · obtain ⟨j, fl, r, i, fl', r', rfl, rfl, _, _, h1, _⟩ := race_spec h.more
    exact (stuck h1).elim

theorem Inv.fire (hT : TabOK P tab) (hms : MsOK ops ms) (hops : ∀ (i : Nat) o, ops[i]? = some o → dstOK O.N o = true) {L L' : Nat → Bool} {W : List (Nat × AV)} {rest : Ord} {R0 R : List (Nat × Nat)} {H : AH} {c : Cx} {a : Act} {w : World}
    (h : Inv P tab ops ms D env0 O K L W rest R0 H c a w) {i : Nat} {o : Oper} {un : List Nat} {r : Ord} (ho : ops[i]? = some o) (hl : L i = false) (hb : ∀ j ∈ binders o, L j = true) (hi' : L' i = true) (hot : ∀ j, j ≠ i → L' j = L j)
    (hq : isRd o = false) (hqm : isMk o = false) (hW : i ∉ W.map Prod.fst) (hwalk : ∃ e, LkEq e (wenv ops env0 W) ∧ xdr tab (CallS P) ops D (.op i un r) ⟨e, H⟩ K) (hmore : drawOK ops ms (.op i un r) R (W.map Prod.fst) = true) (hrace : ∀ p ∈ R, p.1 = i ∨ p.1 ∈ W.map Prod.fst)
    {next : Act → World → Prop} {Q : Exit → Act → World → Prop} (hn : ∀ W rest R H c a w, Inv P tab ops ms D env0 O K L' W rest R H c a w → next a w) :
    if Region.wanted o (yielded ops a.tmps) then o.wp P a w next Q else next (a.put o.dst undef) w := by
  have anc : ∀ j, (ms.getD i 0).testBit j = true → L j = true := fun j hj => hms i j hj L h.closed fun o' ho' k hk => by rw [ho] at ho'; cases ho'; exact hb k hk
  have anc' : ∀ k j, L k = true → (ms.getD k 0).testBit j = true → L j = true := fun k j hk hj => hms k j hj L h.closed fun o' ho' q hq => h.closed k o' ho' hk q hq
  have up : ∀ j, L j = true → L' j = true := fun j hj => by
    by_cases e : j = i
    · subst e; exact hi'
    · rw [hot j e]; exact hj
  have hcl : Closed ops L' := fun k ok hk hLk j hj => by
    by_cases e : k = i
    · subst e; rw [ho] at hk; cases hk; exact up j (hb j hj)
    · rw [hot k e] at hLk; exact up j (h.closed k ok hk hLk j hj)
  have hlt : i < ops.size := (Array.getElem?_eq_some_iff.1 ho).1
  obtain ⟨d1, d2, d3⟩ := drawOK_step hmore h.done
  have d1' := d1
  obtain ⟨⟨oq', ho', hbq, hne⟩, _⟩ := d1
  rw [ho] at ho'; cases ho'
  obtain ⟨e, he, hw⟩ := hwalk
  simp only [xdr_op] at hw
  rw [opt_iff] at hw
  obtain ⟨o', ho', hw⟩ := hw
  rw [ho] at ho'; cases ho'
  rw [hq, hqm] at hw
  simp only at hw
  have hsm : Same ops o e (wenv ops env0 (W.filter fun e => L e.1)) := same_of fun t ht => by
    rw [he t, lk_wenv_all fun e' he' hs => ?_]
    rcases (hne e'.1 (List.mem_map.2 ⟨e', he', rfl⟩)).2 with hb2 | ⟨oj, a2, a3⟩ | hch
    · exact anc _ hb2
    · rw [slot_dst a2] at hs
      exact ((apart_spec a3).2.1 t hs ht).elim
    · exact h.chain_in (List.mem_map.2 ⟨e', he', rfl⟩) hch
  refine ch_step hT hw hsm (hops i o ho) h.sat fun v c' H' a' w' e' hs' hst he' hk => ?_
  obtain ⟨hle, hk'⟩ := hk
  have hch : chainB ops i = true := by unfold chainB; rw [ho]; simp only [hq, hqm]; rfl
  have hnW : ∀ e ∈ W, e.1 ≠ i := fun e he e' => hW (List.mem_map.2 ⟨e, he, e'⟩)
  refine hn ((i, v) :: W) r R H' c' a' w' ⟨?_, hcl, fun j hj => ?_, fun X' j u Y' oj hW' hj hoj => ?_, fun j k u u' n oj ok hj hk hne lj lk hoj hok mj mk' hnm => ?_, ⟨_, ?_, hk'⟩, by simpa using d1', by simpa using d3, fun p hp => (hrace p hp).elim (fun e => (by simp [e])) (fun e => List.mem_cons_of_mem _ e), fun q' x oq' n hq' hoq' mq' hn' => (by
          rcases List.mem_cons.1 hq' with e | hq'
          · cases e; rw [ho] at hoq'; cases hoq'; rw [hqm] at mq'; cases mq'
          · exact h.early q' x oq' n hq' hoq' mq' hn')⟩
  · have hf : W.filter (fun e => L' e.1) = W.filter fun e => L e.1 := List.filter_congr fun e he => hot e.1 (hnW e he)
    rw [List.filter_cons, hi', if_pos rfl, hf]
    simp only [wenv, slot_dst ho]
    exact hs'
  · simp only [List.map_cons, List.mem_cons]
    by_cases e : j = i
    · exact .inl e
    · rw [hot j e] at hj; exact .inr (h.sub j hj)
  · cases X' with
    | nil =>
      simp only [List.nil_append, List.cons.injEq, Prod.mk.injEq] at hW'
      obtain ⟨⟨rfl, rfl⟩, rfl⟩ := hW'
      rw [hi'] at hj; cases hj
    | cons x X' =>
      simp only [List.cons_append, List.cons.injEq] at hW'
      have hjW : (j, u) ∈ W := by rw [hW'.2]; simp
      have e : j ≠ i := hnW _ hjW
      rw [hot j e] at hj
      have hjm : j ∈ W.map Prod.fst := List.mem_map.2 ⟨_, hjW, rfl⟩
      have hun : j ∈ un := by
        rcases d2 hch j hjm with h1 | h1 | h1
        · have := anc _ h1; rw [hj] at this; cases this
        · have := h.chain_in hjm h1; rw [hj] at this; cases this
        · exact h1
      have hle := hle j hun
      exact (h.obl X' j u Y' oj hW'.2 hj hoj).imp (fun o => ⟨o.1, ob_le hle.le o.2⟩) fun o => ⟨o.1, obM_go o.2 (fun n b hn hb hnd => by
          have hD := h.early j u oj n hjW hoj o.1 hn
          have h1 := hide_get (D j) hb
          rw [if_neg hD] at h1
          exact (hle n b h1).resolve_left hnd) fun n blk _ hb hf hg => hst n blk hb hf hg⟩
  · have e1 : j ≠ i := fun e => by rw [e, hi'] at lj; cases lj
    have e2 : k ≠ i := fun e => by rw [e, hi'] at lk; cases lk
    rw [hot j e1] at lj
    rw [hot k e2] at lk
    have inW : ∀ {q x}, q ≠ i → (q, x) ∈ (i, v) :: W → (q, x) ∈ W := fun {q x} hq hx => by
      rcases List.mem_cons.1 hx with e | hx
      · cases e; exact (hq rfl).elim
      · exact hx
    exact h.uniq j k u u' n oj ok (inW e1 hj) (inW e2 hk) hne lj lk hoj hok mj mk' hnm
  · simp only [wenv, slot_dst ho]
    exact (he'.trans he).putd _ _

theorem Inv.step (hT : TabOK P tab) (hms : MsOK ops ms) (hops : ∀ (i : Nat) o, ops[i]? = some o → dstOK O.N o = true) {L L' : Nat → Bool} {W : List (Nat × AV)} {rest : Ord} {R : List (Nat × Nat)} {H : AH} {c : Cx} {a : Act} {w : World}
    (h : Inv P tab ops ms D env0 O K L W rest R H c a w) {i : Nat} {o : Oper} (ho : ops[i]? = some o) (hl : L i = false) (hb : ∀ j ∈ binders o, L j = true) (hi' : L' i = true) (hot : ∀ j, j ≠ i → L' j = L j)
    {next : Act → World → Prop} {Q : Exit → Act → World → Prop} (hn : ∀ W rest R H c a w, Inv P tab ops ms D env0 O K L' W rest R H c a w → next a w) :
    if Region.wanted o (yielded ops a.tmps) then o.wp P a w next Q else next (a.put o.dst undef) w := by
  obtain ⟨W, rest, H, h, hrest⟩ := h.advance
  have anc : ∀ j, (ms.getD i 0).testBit j = true → L j = true := fun j hj => hms i j hj L h.closed fun o' ho' k hk => by rw [ho] at ho'; cases ho'; exact hb k hk
  have anc' : ∀ k j, L k = true → (ms.getD k 0).testBit j = true → L j = true := fun k j hk hj => hms k j hj L h.closed fun o' ho' q hq => h.closed k o' ho' hk q hq
  have up : ∀ j, L j = true → L' j = true := fun j hj => by
    by_cases e : j = i
    · subst e; exact hi'
    · rw [hot j e]; exact hj
  have hcl : Closed ops L' := fun k ok hk hLk j hj => by
    by_cases e : k = i
    · subst e; rw [ho] at hk; cases hk; exact up j (hb j hj)
    · rw [hot k e] at hLk; exact up j (h.closed k ok hk hLk j hj)
  by_cases hW : i ∈ W.map Prod.fst
  · simp only [List.mem_map] at hW
    obtain ⟨⟨i', v⟩, hm, rfl⟩ := hW
    obtain ⟨X, Y, rfl⟩ := List.append_of_mem hm
    simp only at ho hl hb hi' hot anc
    have ob := h.obl X i' v Y o rfl hl ho
    have hd := h.done
    rw [List.map_append, List.map_cons] at hd
    obtain ⟨⟨⟨oi, ho', hb', hY⟩, _⟩, hX⟩ := doneOK_split hd
    rw [ho] at ho'; cases ho'
    have hXl : ∀ e ∈ X, ∀ t, guardSlot ops e.1 = some t → (t ∈ o.looksAt ops ∨ o.dst = some t) → L e.1 = false := fun e he t hs ht => by
      cases hL : L e.1 with
      | false => rfl
      | true =>
        rcases (hX e.1 (List.mem_map.2 ⟨e, he, rfl⟩)).2 with hb2 | ⟨oi, ok, a1, a2, a3⟩ | hch
        · have := anc' _ _ hL hb2
          rw [hl] at this; cases this
        · rw [ho] at a1; cases a1
          rw [slot_dst a2] at hs
          obtain ⟨_, _, b3⟩ := apart_spec a3
          rcases ht with ht | ht
          · exact ((b3 t hs).1 ht).elim
          · exact ((b3 t hs).2 ht).elim
        · have := h.chain_in (j := i') (by simp) hch
          rw [hl] at this; cases this
    have hYl : ∀ e ∈ Y, ∀ t, guardSlot ops e.1 = some t → t ∈ o.looksAt ops → L e.1 = true := fun e he t hs ht => by
      rcases (hY e.1 (List.mem_map.2 ⟨e, he, rfl⟩)).2 with hb2 | ⟨oj, a2, a3⟩ | hch
      · exact anc _ hb2
      · rw [slot_dst a2] at hs
        exact ((apart_spec a3).2.1 t hs ht).elim
      · exact h.chain_in (List.mem_map.2 ⟨e, by simp [he], rfl⟩) hch
    have hsm : Same ops o (wenv ops env0 Y) (wenv ops env0 ((X ++ (i', v) :: Y).filter fun e => L e.1)) := same_of fun t ht => by
      rw [lk_wenv_skip fun e he hs => hXl e he t hs (.inl ht), List.filter_cons, hl]
      simp only [Bool.false_eq_true, if_false]
      rw [lk_wenv_all fun e he hs => hYl e he t hs ht]
    have go : ∀ c' a' w', Sat O c' ⟨putd o.dst v (wenv ops env0 ((X ++ (i', v) :: Y).filter fun e => L e.1)), H⟩ a' w' →
        (∀ X' j u Y' oj, X ++ (i', v) :: Y = X' ++ (j, u) :: Y' → j ≠ i' → L j = false → ops[j]? = some oj → isMk oj = true → ObM tab ops O (D j) oj (wenv ops env0 Y') H c u → ObM tab ops O (D j) oj (wenv ops env0 Y') H c' u) → next a' w' := by
      intro c' a' w' hs' hM
      refine hn (X ++ (i', v) :: Y) rest R H c' a' w' ⟨?_, hcl, fun j hj => ?_, fun X' j u Y' oj hW' hj hoj => ?_, fun j k u u' n oj ok hj hk hne lj lk hoj hok mj mk' hnm => ?_, h.walk, h.done, h.more, h.raced, h.early⟩
      · refine hs'.lkeq ?_
        have := lk_wenv_put (ops := ops) (env0 := env0) (v := v) hl hi' hot (Y := Y) (fun e he => fun e' => (hY e.1 (List.mem_map.2 ⟨e, he, rfl⟩)).1 e'.symm) (X := X) (fun e he => (hX e.1 (List.mem_map.2 ⟨e, he, rfl⟩)).1)
          (fun e he t h1 h2 => hXl e he t h1 (.inr (by rw [← slot_dst ho]; exact h2)))
        rw [slot_dst ho] at this
        exact this
      · by_cases e : j = i'
        · subst e; simp
        · rw [hot j e] at hj; exact h.sub j hj
      · have e : j ≠ i' := fun e => by rw [e, hi'] at hj; cases hj
        rw [hot j e] at hj
        exact (h.obl X' j u Y' oj hW' hj hoj).imp id fun k => ⟨k.1, hM X' j u Y' oj hW' e hj hoj k.1 k.2⟩
      · have e1 : j ≠ i' := fun e => by rw [e, hi'] at lj; cases lj
        have e2 : k ≠ i' := fun e => by rw [e, hi'] at lk; cases lk
        rw [hot j e1] at lj
        rw [hot k e2] at lk
        exact h.uniq j k u u' n oj ok hj hk hne lj lk hoj hok mj mk' hnm
    rcases ob with ⟨hrd, ob⟩ | ⟨hmk, ob⟩
    · exact ob_step hT ob hsm (hops i' o ho) h.sat fun c' a' w' hs' hst => go c' a' w' hs' fun X' j u Y' oj _ _ _ _ _ k => obM_go k (fun _ _ _ hb _ => hb) fun n blk _ hb hf hg => hst n blk hb hf hg
    · refine obM_step hT ob hsm (hops i' o ho) h.sat fun c' a' w' hs' hst => go c' a' w' hs' fun X' j u Y' oj hW' hj lj hoj mj k => obM_go k (fun _ _ _ hb _ => hb) fun n blk hn hb hf hg => hst n (fun hv => ?_) hg
      exact h.uniq i' j v u n o oj (by simp) (by rw [hW']; simp) (Ne.symm hj) hl lj ho hoj hmk mj hv hn
  · have hlt : i < ops.size := (Array.getElem?_eq_some_iff.1 ho).1
    have other : ∀ {q fl r R' oq}, drawOK ops ms (.op q fl r) R' (W.map Prod.fst) = true → ops[q]? = some oq → isRd oq = false → isMk oq = false → i ≠ q → ((q, i) ∈ R' → q ∈ W.map Prod.fst) → False := by
      intro q fl r R' oq hmore hoq hq hqm hiq hR
      obtain ⟨d1, d2, d3⟩ := drawOK_step hmore h.done
      obtain ⟨⟨oq', ho', hbq, hne⟩, _⟩ := d1
      rcases later_pair (q := q) hlt d3 (by simp) (by simp only [List.mem_cons, not_or]; exact ⟨hiq, hW⟩) with h1 | ⟨oq', oi, a1, a2, a3⟩ | h1
      · exact (hne q (h.sub q (anc _ h1))).1 rfl
      · rw [hoq] at a1; cases a1
        have := (apart_spec a3).1
        rw [hq, hqm] at this; cases this
      · exact (hne q (hR h1)).1 rfl
    rcases hrest with rfl | ⟨q, fl, r, oq, rfl, hoq, hq, hqm⟩ | ⟨ra, rb, rfl⟩
    · have := h.more
      simp only [drawOK, List.all_eq_true, List.mem_range] at this
      exact (hW (by simpa using this i hlt)).elim
    · by_cases hiq : i = q
      · subst hiq
        rw [ho] at hoq; cases hoq
        exact h.fire hT hms hops ho hl hb hi' hot hq hqm hW h.walk h.more (fun p hp => .inr (h.raced p hp)) hn
      · exact (other h.more hoq hq hqm hiq (fun hR => h.raced _ hR)).elim
    · obtain ⟨j, fl, r, k, fl', r', rfl, rfl, c1, c2, h1, h2⟩ := race_spec h.more
      obtain ⟨oj, hoj, hj1, hj2⟩ := chain_spec c1
      obtain ⟨ok, hok, hk1, hk2⟩ := chain_spec c2
      obtain ⟨e, he, hwa, hwb⟩ := h.walk
      by_cases hij : i = j
      · subst hij
        rw [ho] at hoj; cases hoj
        exact h.fire hT hms hops ho hl hb hi' hot hj1 hj2 hW ⟨e, he, hwa⟩ h1 (fun p hp => by
          rcases List.mem_cons.1 hp with e | hp
          · exact .inl (by rw [e])
          · exact .inr (h.raced p hp)) hn
      · by_cases hik : i = k
        · subst hik
          rw [ho] at hok; cases hok
          exact h.fire hT hms hops ho hl hb hi' hot hk1 hk2 hW ⟨e, he, hwb⟩ h2 (fun p hp => by
            rcases List.mem_cons.1 hp with e | hp
            · exact .inl (by rw [e])
            · exact .inr (h.raced p hp)) hn
        · refine (other h1 hoj hj1 hj2 hij fun hR => ?_).elim
          rcases List.mem_cons.1 hR with e | hR
          · cases e; exact (hik rfl).elim
          · exact h.raced _ hR

end
end Go.Proofs.YthpkehhghcpolaaDoor

namespace Go.Proofs.YthpkehhghcpolaaDoor
open Go.RowKit
set_option linter.unusedVariables false
set_option linter.unusedSimpArgs false

section
variable {P : Program} {tab : Tab} {ops : Array Oper} {ms : List Nat} {D : Nat → List Nat} {env0 : List (Nat × AV)} {O : Org} {K : St → Prop}

theorem Inv.main (hT : TabOK P tab) (hms : MsOK ops ms) (hops : ∀ (i : Nat) o, ops[i]? = some o → dstOK O.N o = true) {Q : Exit → Act → World → Prop} (hK : Good O K (Q .normal)) :
    ∀ (fuel : Nat) (listed : Array Bool) (W : List (Nat × AV)) (rest : Ord) (R : List (Nat × Nat)) (H : AH) (c : Cx) (a : Act) (w : World), listed.size = ops.size → (List.range ops.size).countP (fun i => !listed.getD i false) ≤ fuel →
      Inv P tab ops ms D env0 O K (fun i => listed.getD i false) W rest R H c a w → wpAny P .any ops Q fuel listed a w := by
  intro fuel
  induction fuel with
  | zero =>
    intro listed W rest R H c a w hsz hc h
    have hr : Region.ready .any ops listed = [] := by
      refine List.eq_nil_iff_forall_not_mem.2 fun i hi => ?_
      obtain ⟨o, ho, hl, _⟩ := of_ready hsz hi
      have hlt : i < ops.size := (Array.getElem?_eq_some_iff.1 ho).1
      have : 0 < (List.range ops.size).countP fun i => !listed.getD i false := List.countP_pos_iff.2 ⟨i, by simpa using hlt, by rw [hl]; rfl⟩
      omega
    exact ⟨hr, h.over hK hsz hr⟩
  | succ fuel ih =>
    intro listed W rest R H c a w hsz hc h
    refine ⟨fun hr => h.over hK hsz hr, fun i hi => ?_⟩
    obtain ⟨o, ho, hl, hb⟩ := of_ready hsz hi
    have hlt : i < ops.size := (Array.getElem?_eq_some_iff.1 ho).1
    have hlt' : i < listed.size := by omega
    have hself : (listed.setIfInBounds i true).getD i false = true := by
      simp [Array.getD_eq_getD_getElem?, Array.getElem?_setIfInBounds_self_of_lt hlt']
    have hother : ∀ j, j ≠ i → (listed.setIfInBounds i true).getD j false = listed.getD j false := fun j hj => getD_set_ne false (Ne.symm hj)
    have hcount : (List.range ops.size).countP (fun i => !listed.getD i false) = (List.range ops.size).countP (fun j => !(listed.setIfInBounds i true).getD j false) + 1 :=
      countP_upd (i := i) (by simp only [hl]; rfl) (by simp only [hself]; rfl) (fun j hj => by simp only [hother j hj]) List.nodup_range (by simpa using hlt)
    have := h.step hT hms hops ho hl hb (L' := fun j => (listed.setIfInBounds i true).getD j false) hself hother (Q := Q) (next := wpAny P .any ops Q fuel (listed.setIfInBounds i true))
      fun W rest R H c a w hinv => ih _ W rest R H c a w (by simpa using hsz) (by omega) hinv
    unfold wpOp
    rw [ho]
    simp only
    split
    · rename_i hw; rw [if_pos hw] at this; exact .inl this
    · rename_i hw; rw [if_neg hw] at this; exact this

end

section
variable {P : Program} {tab : Tab}

theorem Sat.drawn {O c s a w} (h : Sat O c s a w) (n : Nat) : Sat O c s a { w with drawn := n } := by
  have ev : Ev w c s.H { w with drawn := n } c s.H := by
    refine ⟨rfl, Nat.le_refl _, fun b blk hb => ⟨blk, hb, ?_⟩, fun cb hm => .inl hm, fun _ _ _ => rfl, fun _ _ _ _ h => h⟩
    cases blk with
    | dead => trivial
    | box cs => exact ⟨rfl, fun _ h => h⟩
    | iter s p => exact ⟨rfl, fun _ h => h⟩
    | arr e s z g l => exact ⟨rfl, rfl, rfl, Nat.le_refl _, Nat.le_refl _, fun _ => ⟨rfl, fun _ h => ⟨h, rfl⟩⟩⟩
  have hs : HS { w with drawn := n } c s.H O.B := h.hs.keep ev h.hs.inj h.hs.base h.hs.dom (fun b cb cells hb hg => .inl ⟨hb, hg, rfl⟩) (fun b cb e s z g l hb hg => .inl ⟨hb, hg, rfl⟩) (fun b cb s p hb hg => .inl ⟨hb, hg, rfl⟩)
  exact h.go ev hs ⟨rfl, rfl, rfl, Nat.le_refl _, fun _ _ => rfl⟩

/-- A region that draws its order, by a walk in an order that is given. -/
def regD (P : Program) (tab : Tab) : RegP := fun ops s K => ∃ D σ, drawOK ops (masks ops) σ [] [] = true ∧ xdr tab (CallS P) ops D σ s K

theorem regD_ok (hT : TabOK P tab) (hm : P.follows .mixedOrders = true) : RegOK P tab (regD P tab) := by
  intro O id ops s K h hops c a w R hs hK
  obtain ⟨D, σ, hσ, hw⟩ := h
  obtain ⟨env0, H⟩ := s
  refine wp_region_any hm ?_
  have hrep : ∀ i, (Array.replicate ops.size false).getD i false = false := fun i => by
    simp only [Array.getD_eq_getD_getElem?, Array.getElem?_replicate]
    split <;> rfl
  refine Inv.main (env0 := env0) (O := O) (K := K) hT (masks_ok ops) (fun i o ho => ?_) hK ops.size _ [] σ [] H c a _ (by simp) ?_ ⟨?_, fun i o _ hl => ?_, fun i hl => ?_, fun X i v Y o hW => ?_, fun i j v u n oi oj hi => (by cases hi), ⟨env0, .refl _, hw⟩, trivial, hσ, fun p hp => (by cases hp), fun i v o n hi => (by cases hi)⟩
  · rw [List.all_eq_true] at hops
    exact hops o (List.mem_of_getElem? (by rw [Array.getElem?_toList]; exact ho))
  · refine Nat.le_trans List.countP_le_length (by simp)
  · exact hs.drawn _
  · simp only [hrep] at hl; cases hl
  · simp only [hrep] at hl; cases hl
  · cases X <;> cases hW

end
end Go.Proofs.YthpkehhghcpolaaDoor

namespace Go.Proofs.YthpkehhghcpolaaDoor
open Go.RowKit
set_option linter.unusedVariables false

end Go.Proofs.YthpkehhghcpolaaDoor

namespace Go.Proofs.YthpkehhghcpolaaDoor
open Go.RowKit
set_option linter.unusedVariables false
set_option linter.unusedSimpArgs false

/-- The new number of a block that is kept. -/
def findI : List Nat → Nat → Nat → Option Nat
  | [], _, _ => none
  | k :: r, b, i => match Nat.beq k b with | true => some i | false => findI r b (i + 1)

theorem findI_spec : ∀ {keep : List Nat} {b i j : Nat}, findI keep b i = some j → i ≤ j ∧ keep[j - i]? = some b
  | [], b, i, j, h => by simp [findI] at h
  | k :: r, b, i, j, h => by
    simp only [findI] at h
    split at h
    · rename_i hb
      cases h
      rw [Nat.eq_of_beq_eq_true hb]
      exact ⟨Nat.le_refl _, by simp⟩
    · obtain ⟨h1, h2⟩ := findI_spec h
      refine ⟨by omega, ?_⟩
      rw [show j - i = (j - (i + 1)) + 1 by omega]
      simpa using h2

/-- The new generation of a row (those that were there when the function began keep theirs). -/
def newG (k0 b g : Nat) : Nat := match Nat.blt b k0 with | true => g | false => 0
theorem newG_odd (k0 b g : Nat) (h : newG k0 b g % 2 = 1) : g % 2 = 1 := by
  unfold newG at h
  split at h
  · exact h
  · simp at h

mutual
/-- A value with its blocks numbered anew. -/
def renF (k0 : Nat) : Nat → List Nat → AH → AV → Option AV
  | 0, _, _, _ => none
  | k + 1, keep, H, v =>
    match v with
    | .t x => some (.t x)
    | .ptr b g i o =>
      match findI keep b 0 with
      | some b' =>
        (match H[b]? with
        | some (.arr _ _ _ gen _) => (match Nat.beq g gen with | true => some (.ptr b' (newG k0 b' g) i o) | false => none)
        | some (.box _) => some (.ptr b' g i o)
        | some (.iter _ _) => some (.ptr b' g i o)
        | _ => none)
      | none => none
    | .sl b g i n =>
      match findI keep b 0 with
      | some b' =>
        (match H[b]? with
        | some (.arr _ _ _ gen _) => (match Nat.beq g gen with | true => some (.sl b' (newG k0 b' g) i n) | false => none)
        | _ => none)
      | none => none
    | .agg cs => match renL k0 k keep H cs with | some cs => some (.agg cs) | none => none
    | .tup cs => match renL k0 k keep H cs with | some cs => some (.tup cs) | none => none
    | .fn f a b => match renL k0 k keep H a, renL k0 k keep H b with | some a, some b => some (.fn f a b) | _, _ => none
    | .ifc t v => match renF k0 k keep H v with | some v => some (.ifc t v) | none => none
    | .emp => some .emp
    | .junk => some .junk
    | .own _ _ _ _ => none
def renL (k0 : Nat) : Nat → List Nat → AH → List AV → Option (List AV)
  | 0, _, _, _ => none
  | _ + 1, _, _, [] => some []
  | k + 1, keep, H, v :: r => match renF k0 k keep H v, renL k0 k keep H r with | some v, some r => some (v :: r) | _, _ => none
end

def renB (k0 : Nat) (keep : List Nat) (H : AH) (i : Nat) : Blk → Option Blk
  | .dead => some .dead
  | .box cells => (renL k0 64 keep H cells).map .box
  | .iter s p => some (.iter s p)
  | .arr e s z g (.ts l) => some (.arr e s z (newG k0 i g) (.ts l))
  | .arr e s z g (.vs l) => (renL k0 64 keep H l).map fun l => .arr e s z (newG k0 i g) (.vs l)

theorem renL_get {k0 : Nat} : ∀ (k : Nat) {keep : List Nat} {H : AH} {l l' : List AV}, renL k0 k keep H l = some l' → l'.length = l.length ∧ ∀ (i : Nat) x', l'[i]? = some x' → ∃ x m, l[i]? = some x ∧ m < k ∧ renF k0 m keep H x = some x'
  | 0, keep, H, l, l', h => by simp [renL] at h
  | k + 1, keep, H, [], l', h => by simp [renL] at h; subst h; simp
  | k + 1, keep, H, v :: r, l', h => by
    simp only [renL] at h
    split at h
    · rename_i v' r' hv hr
      cases h
      obtain ⟨h1, h2⟩ := renL_get k hr
      refine ⟨by simp [h1], fun i x hi => ?_⟩
      cases i with
      | zero => simp at hi; subst hi; exact ⟨v, k, rfl, Nat.lt_succ_self k, hv⟩
      | succ i =>
        simp at hi
        obtain ⟨x0, m, a1, a2, a3⟩ := h2 i x hi
        exact ⟨x0, m, a1, by omega, a3⟩
    · cases h

theorem renF_one {k0 k : Nat} {keep : List Nat} {H : AH} {v v' : AV} (h : renF k0 k keep H v = some v') (h1 : v.one = true) : v'.one = true := by
  cases k with
  | zero => simp [renF] at h
  | succ k =>
    cases v <;> simp only [renF] at h
    · cases h; exact h1
    · split at h
      · split at h
        · split at h <;> first | (cases h; rfl) | cases h
        · cases h; rfl
        · cases h; rfl
        · cases h
      · cases h
    · split at h
      · split at h
        · split at h <;> first | (cases h; rfl) | cases h
        · cases h
      · cases h
    · simp [AV.one] at h1
    · simp [AV.one] at h1
    · split at h <;> first | (cases h; rfl) | cases h
    · split at h <;> first | (cases h; rfl) | cases h
    · cases h
    · cases h; rfl
    · simp [AV.one] at h1

/-- How a state's blocks are numbered anew. -/
structure Kept (k0 : Nat) (c : Cx) (H : AH) (keep : List Nat) (c' : Cx) (H' : AH) : Prop where
  M : ∀ cb, c'.M H' cb → c.M H cb
  at_ : ∀ (i : Nat) b, keep[i]? = some b → c'.G i = c.G b ∧ ∃ blk blk', H[b]? = some blk ∧ H'[i]? = some blk' ∧ renB k0 keep H i blk = some blk'

theorem RA.ren {k0 : Nat} {w : World} {c : Cx} {H : AH} {keep : List Nat} {c' : Cx} {H' : AH} (hk : Kept k0 c H keep c' H') {x : AV} {v : Value} (h : RA w c H x v) : ∀ {k : Nat} {x' : AV}, renF k0 k keep H x = some x' → RA w c' H' x' v := by
  have list : ∀ {l l' : List AV} {vs : Nat → Option Value} {k : Nat}, (∀ (i : Nat) x v, l[i]? = some x → vs i = some v → ∀ {k : Nat} {x' : AV}, renF k0 k keep H x = some x' → RA w c' H' x' v) → renL k0 k keep H l = some l' →
      l'.length = l.length ∧ (∀ (i : Nat) x v, l'[i]? = some x → vs i = some v → RA w c' H' x v) := by
    intro l l' vs k ih h
    obtain ⟨h1, h2⟩ := renL_get k h
    refine ⟨h1, fun i x v hi hv => ?_⟩
    obtain ⟨x0, m, a1, a2, a3⟩ := h2 i x hi
    exact ih i x0 v a1 hv a3
  induction h with
  | t x v h =>
    intro k x' hx
    cases k with
    | zero => simp [renF] at hx
    | succ k => simp only [renF] at hx; cases hx; exact .t x v (h.mono fun b _ hb => ⟨rfl, fun hm => hb (hk.M b hm)⟩)
  | ptr b g i o v blk hb hm hv =>
    intro k x' hx
    cases k with
    | zero => simp [renF] at hx
    | succ k =>
      simp only [renF] at hx
      split at hx
      · rename_i b' hf
        obtain ⟨_, hf⟩ := findI_spec hf
        obtain ⟨hG, blk0, blk', h1, h2, h3⟩ := hk.at_ b' b (by simpa using hf)
        rw [hb] at h1; cases h1
        rw [hb] at hx
        cases blk with
        | dead => simp at hx
        | box cells =>
          simp only [renB, Option.map_eq_some_iff] at h3
          obtain ⟨cs, _, rfl⟩ := h3
          simp only at hx
          cases hx
          exact .ptr b' g i o v _ h2 (by rw [hG]; exact hm) hv
        | iter s p =>
          simp only [renB, Option.some.injEq] at h3
          subst h3
          simp only at hx
          cases hx
          exact .ptr b' g i o v _ h2 (by rw [hG]; exact hm) hv
        | arr e s z gen l =>
          simp only at hx
          split at hx
          · rename_i hgg
            cases hx
            have hgg := Nat.eq_of_beq_eq_true hgg
            subst hgg
            have : ∃ l', blk' = .arr e s z (newG k0 b' g) l' := by
              cases l with
              | ts l => simp [renB] at h3; exact ⟨_, h3.symm⟩
              | vs l =>
                simp only [renB, Option.map_eq_some_iff] at h3
                obtain ⟨l', _, rfl⟩ := h3
                exact ⟨_, rfl⟩
            obtain ⟨l', rfl⟩ := this
            exact .ptr b' _ i o v _ h2 ⟨Nat.le_refl _, fun _ => by rw [hG]; exact hm.2 rfl⟩ hv
          · cases hx
      · cases hx
  | sl b g i len v blk hb hm hv =>
    intro k x' hx
    cases k with
    | zero => simp [renF] at hx
    | succ k =>
      simp only [renF] at hx
      split at hx
      · rename_i b' hf
        obtain ⟨_, hf⟩ := findI_spec hf
        obtain ⟨hG, blk0, blk', h1, h2, h3⟩ := hk.at_ b' b (by simpa using hf)
        rw [hb] at h1; cases h1
        rw [hb] at hx
        cases blk with
        | dead => simp at hx
        | box cells => exact hm.elim
        | iter => exact hm.elim
        | arr e s z gen l =>
          simp only at hx
          split at hx
          · rename_i hgg
            cases hx
            have hgg := Nat.eq_of_beq_eq_true hgg
            subst hgg
            have : ∃ l', blk' = .arr e s z (newG k0 b' g) l' ∧ l'.length = l.length := by
              cases l with
              | ts l => simp [renB] at h3; exact ⟨_, h3.symm, rfl⟩
              | vs l =>
                simp only [renB, Option.map_eq_some_iff] at h3
                obtain ⟨l', hl, rfl⟩ := h3
                exact ⟨_, rfl, (renL_get _ hl).1⟩
            obtain ⟨l', rfl, hl⟩ := this
            refine .sl b' _ i len v _ h2 ⟨Nat.le_refl _, fun _ => ?_⟩ hv
            simp only [hl, hG]; exact hm.2 rfl
          · cases hx
      · cases hx
  | agg cs vs hl h1 hr ih =>
    intro k x' hx
    cases k with
    | zero => simp [renF] at hx
    | succ k =>
      simp only [renF] at hx
      split at hx
      · rename_i cs' hcs
        cases hx
        obtain ⟨a1, a2⟩ := list (vs := fun i => vs[i]?) (fun i x v hi hv => ih i x v hi hv) hcs
        refine .agg cs' vs (by omega) (fun i x hi => ?_) a2
        obtain ⟨x0, m, b1, _, b3⟩ := (renL_get _ hcs).2 i x hi
        exact renF_one b3 (h1 i x0 b1)
      · cases hx
  | tup cs vs hl hr ih =>
    intro k x' hx
    cases k with
    | zero => simp [renF] at hx
    | succ k =>
      simp only [renF] at hx
      split at hx
      · rename_i cs' hcs
        cases hx
        obtain ⟨a1, a2⟩ := list (vs := fun i => vs[i]?) (fun i x v hi hv => ih i x v hi hv) hcs
        exact .tup cs' vs (by omega) a2
      · cases hx
  | fn f first captured a b ha hb hra hrb iha ihb =>
    intro k x' hx
    cases k with
    | zero => simp [renF] at hx
    | succ k =>
      simp only [renF] at hx
      split at hx
      · rename_i a' b' h1 h2
        cases hx
        obtain ⟨a1, a2⟩ := list (vs := fun i => a[i]?) (fun i x v hi hv => iha i x v hi hv) h1
        obtain ⟨b1, b2⟩ := list (vs := fun i => b[i]?) (fun i x v hi hv => ihb i x v hi hv) h2
        exact .fn f a' b' a b (by omega) (by omega) a2 b2
      · cases hx
  | ifc t x v h ih =>
    intro k x' hx
    cases k with
    | zero => simp [renF] at hx
    | succ k =>
      simp only [renF] at hx
      split at hx
      · rename_i y hy
        cases hx
        exact .ifc t y v (ih hy)
      · cases hx
  | emp ad =>
    intro k x' hx
    cases k with
    | zero => simp [renF] at hx
    | succ k => simp only [renF] at hx; cases hx; exact .emp ad
  | junk v =>
    intro k x' hx
    cases k with
    | zero => simp [renF] at hx
    | succ k => simp only [renF] at hx; cases hx; exact .junk v

theorem renF_cells {k0 k : Nat} {keep : List Nat} {H : AH} {v v' : AV} (h : renF k0 k keep H v = some v') (hv : v.one = true ∨ ∃ cs, v = .agg cs ∨ ∃ l, v = .t (.agg l)) :
    v'.cells.length = v.cells.length ∧ ∀ (j : Nat) y', v'.cells[j]? = some y' → ∃ y m, v.cells[j]? = some y ∧ renF k0 m keep H y = some y' := by
  have single : v.one = true → v'.cells.length = v.cells.length ∧ ∀ (j : Nat) y', v'.cells[j]? = some y' → ∃ y m, v.cells[j]? = some y ∧ renF k0 m keep H y = some y' := by
    intro h1
    rw [AV.cells_one h1, AV.cells_one (renF_one h h1)]
    refine ⟨rfl, fun j y hj => ?_⟩
    cases j with
    | zero => simp at hj; subst hj; exact ⟨v, k, rfl, h⟩
    | succ j => simp at hj
  rcases hv with hv | ⟨cs, rfl | ⟨l, rfl⟩⟩
  · exact single hv
  · cases k with
    | zero => simp [renF] at h
    | succ k =>
      simp only [renF] at h
      split at h
      · rename_i cs' hcs
        cases h
        obtain ⟨h1, h2⟩ := renL_get _ hcs
        refine ⟨h1, fun j y hj => ?_⟩
        obtain ⟨x, m, a1, a2, a3⟩ := h2 j y hj
        exact ⟨x, m, a1, a3⟩
      · cases h
  · cases k with
    | zero => simp [renF] at h
    | succ k =>
      simp only [renF] at h
      cases h
      refine ⟨rfl, fun j y hj => ⟨y, 1, hj, ?_⟩⟩
      rw [T.cells_t] at hj
      simp only [List.getElem?_map, Option.map_eq_some_iff] at hj
      obtain ⟨c, _, rfl⟩ := hj
      rfl

/-- The kept values, as they are told anew. -/
def AgreeR (k0 : Nat) (keep : List Nat) (H : AH) (env : List (Nat × AV)) : List (Nat × AV) → Prop
  | [] => True
  | (t, v) :: r => renF k0 16 keep H (lk env t) = some v ∧ AgreeR k0 keep H env r

theorem agreeR_lk {k0 : Nat} {keep : List Nat} {H : AH} {env : List (Nat × AV)} : ∀ {env' : List (Nat × AV)}, AgreeR k0 keep H env env' → ∀ t, lk env' t = .junk ∨ renF k0 16 keep H (lk env t) = some (lk env' t)
  | [], _, t => .inl rfl
  | (d, v) :: r, h, t => by
    rw [lk_cons]
    by_cases e : d = t
    · rw [if_pos e, ← e, h.1]; exact .inr rfl
    · rw [if_neg e]; exact agreeR_lk h.2 t

def BlksR (k0 : Nat) (keep : List Nat) (H : AH) : Nat → List Nat → AH → Prop
  | _, [], [] => True
  | i, b :: r, blk :: l => (H[b]?.bind (renB k0 keep H i)) = some blk ∧ BlksR k0 keep H (i + 1) r l
  | _, _, _ => False

theorem blksR_get {k0 : Nat} {keep : List Nat} {H : AH} : ∀ {n : Nat} {r : List Nat} {l : AH}, BlksR k0 keep H n r l → r.length = l.length ∧ ∀ (i : Nat) b, r[i]? = some b → ∃ blk blk', H[b]? = some blk ∧ l[i]? = some blk' ∧ renB k0 keep H (n + i) blk = some blk'
  | n, [], [], _ => by simp
  | n, [], _ :: _, h => h.elim
  | n, _ :: _, [], h => h.elim
  | n, b :: r, blk :: l, h => by
    obtain ⟨h1, h2⟩ := blksR_get h.2
    refine ⟨by simp [h1], fun i b' hi => ?_⟩
    cases i with
    | zero =>
      simp at hi; subst hi
      have := h.1
      rw [Option.bind_eq_some_iff] at this
      obtain ⟨bk, a1, a2⟩ := this
      exact ⟨bk, blk, a1, rfl, a2⟩
    | succ i =>
      simp at hi
      obtain ⟨bk, bk', a1, a2, a3⟩ := h2 i b' hi
      exact ⟨bk, bk', a1, a2, by rw [show n + (i + 1) = n + 1 + i by omega]; exact a3⟩

/-- Are the first so many kept as they are? -/
def headOK (k0 : Nat) (keep : List Nat) : Bool := decide (keep.Nodup) && Nat.ble k0 keep.length && (List.range k0).all fun i => match keep[i]? with | some b => Nat.beq b i | none => false

theorem goes_ren {k0 : Nat} {keep : List Nat} {H : AH} {w0 w : World} {c0 c c' : Cx} {b : Nat} {blk0 blk blk' : Blk} (hb : b < k0) (h : Blk.goes w0 c0 w c b blk0 blk) (hr : renB k0 keep H b blk = some blk') (hG : c'.G b = c.G b) : Blk.goes w0 c0 w c' b blk0 blk' := by
  cases blk with
  | dead => simp [renB] at hr; subst hr; cases blk0 <;> trivial
  | box cells =>
    simp only [renB, Option.map_eq_some_iff] at hr
    obtain ⟨cs, hcs, rfl⟩ := hr
    have hl := (renL_get _ hcs).1
    cases blk0 with
    | dead => exact h.elim
    | arr => exact h.elim
    | iter => exact h.elim
    | box cs0 => exact ⟨h.1.trans hl.symm, fun cb hc => by rw [hG]; exact h.2 cb hc⟩
  | iter s p =>
    simp only [renB, Option.some.injEq] at hr
    subst hr
    cases blk0 with
    | dead => exact h.elim
    | arr => exact h.elim
    | box => exact h.elim
    | iter s0 p0 => exact ⟨h.1, fun cb hc => by rw [hG]; exact h.2 cb hc⟩
  | arr e s z g l =>
    have hng : newG k0 b g = g := by rw [newG, show Nat.blt b k0 = true from by rw [Nat.blt_eq]; exact hb]
    have : ∃ l', blk' = .arr e s z g l' ∧ l'.length = l.length := by
      rw [← hng]
      cases l with
      | ts l => simp [renB] at hr; exact ⟨_, hr.symm, rfl⟩
      | vs l =>
        simp only [renB, Option.map_eq_some_iff] at hr
        obtain ⟨l', hl, rfl⟩ := hr
        exact ⟨_, rfl, (renL_get _ hl).1⟩
    obtain ⟨l', rfl, hl⟩ := this
    cases blk0 with
    | dead => exact h.elim
    | box => exact h.elim
    | iter => exact h.elim
    | arr e0 s0 z0 g0 l0 =>
      obtain ⟨a1, a2, a3, a4, a5, a6⟩ := h
      exact ⟨a1, a2, a3, by omega, a5, fun he => ⟨by rw [hl]; exact (a6 he).1, fun cb hc => by rw [hG]; exact (a6 he).2 cb hc⟩⟩

theorem weak_gc {k0 : Nat} {s s' : St} (keep : List Nat) (hd : headOK k0 keep = true) (h : AgreeR k0 keep s.H s.env s'.env) (hB : BlksR k0 keep s.H 0 keep s'.H) : Weak k0 s s' := by
  intro O c a w hk0 hs
  subst hk0
  simp only [headOK, Bool.and_eq_true, decide_eq_true_eq, List.all_eq_true, List.mem_range] at hd
  obtain ⟨⟨hnd, hlen⟩, hfix⟩ := hd
  have hlen := Nat.le_of_ble_eq_true hlen
  have hfix : ∀ i, i < O.H0.length → keep[i]? = some i := fun i hi => by
    have := hfix i hi
    cases hk : keep[i]? with
    | none => rw [hk] at this; cases this
    | some b => rw [hk] at this; rw [Nat.eq_of_beq_eq_true this]
  obtain ⟨hBl, hBg⟩ := blksR_get hB
  let c' : Cx := ⟨c.F, fun i => keep[i]?.bind c.G⟩
  have hG : ∀ i cb, c'.G i = some cb → ∃ b, keep[i]? = some b ∧ c.G b = some cb := fun i cb hg => by
    simp only [c', Option.bind_eq_some_iff] at hg; exact hg
  have hblk : ∀ i blk', s'.H[i]? = some blk' → ∃ b blk, keep[i]? = some b ∧ s.H[b]? = some blk ∧ renB O.H0.length keep s.H i blk = some blk' := fun i blk' hi => by
    have hlt := lt_of_getElem? hi
    obtain ⟨blk, bk', h1, h2, h3⟩ := hBg i _ (List.getElem?_eq_getElem (by omega))
    rw [hi] at h2; cases h2
    exact ⟨_, blk, List.getElem?_eq_getElem (by omega), h1, by rw [Nat.zero_add] at h3; exact h3⟩
  have live : ∀ {i : Nat} {blk blk' : Blk}, renB O.H0.length keep s.H i blk = some blk' → blk'.live = true → blk.live = true := by
    intro i blk blk' h1 h2
    cases blk with
    | dead => simp [renB] at h1; subst h1; exact h2
    | box => rfl
    | iter => rfl
    | arr => rfl
  have hM : ∀ cb, c'.M s'.H cb → c.M s.H cb := by
    rintro cb (hf | ⟨i, blk', hi, hl, hg⟩)
    · exact .inl hf
    · obtain ⟨b, hb, hg⟩ := hG i cb hg
      obtain ⟨b2, blk, hb2, h1, h2⟩ := hblk i blk' hi
      rw [hb] at hb2; cases hb2
      exact .inr ⟨b, blk, h1, live h2 hl, hg⟩
  have hO : ∀ cb, c'.O s'.H cb → c.O s.H cb := by
    rintro cb ⟨i, blk', hi, hl, hg⟩
    obtain ⟨b, hb, hg⟩ := hG i cb hg
    obtain ⟨b2, blk, hb2, h1, h2⟩ := hblk i blk' hi
    rw [hb] at hb2; cases hb2
    exact ⟨b, blk, h1, live h2 hl, hg⟩
  have hk : Kept O.H0.length c s.H keep c' s'.H := ⟨hM, fun i b hi => ⟨by simp [c', hi], by
    obtain ⟨blk, blk', h1, h2, h3⟩ := hBg i b hi
    exact ⟨blk, blk', h1, h2, by rw [Nat.zero_add] at h3; exact h3⟩⟩⟩
  have hs' : HS w c' s'.H O.B := by
    refine ⟨fun i j cb h1 h2 => ?_, fun i cb h1 => ?_, fun cb hf => ⟨(hs.hs.fb cb hf).1, fun i hg => by obtain ⟨b, _, a2⟩ := hG i cb hg; exact (hs.hs.fb cb hf).2 b a2⟩, hs.hs.hB, fun i cb h1 => ?_, fun i cb cells hi hg => ?_, fun i cb e s1 z g l hi hg => ?_, fun i cb s1 p hi hg => ?_⟩
    · obtain ⟨b, a1, a2⟩ := hG i cb h1
      obtain ⟨b', b1, b2⟩ := hG j cb h2
      have := hs.hs.inj b b' cb a2 b2
      subst this
      exact (List.getElem?_inj (lt_of_getElem? a1) hnd).1 (a1.trans b1.symm)
    · obtain ⟨b, a1, a2⟩ := hG i cb h1
      exact hs.hs.base b cb a2
    · obtain ⟨b, a1, a2⟩ := hG i cb h1
      have := lt_of_getElem? a1
      omega
    · obtain ⟨b, a1, a2⟩ := hG i cb hg
      obtain ⟨b2, blk, b1, b2', b3⟩ := hblk i _ hi
      rw [a1] at b1; cases b1
      cases blk with
      | dead => simp [renB] at b3
      | iter => simp [renB] at b3
      | arr e s2 z g l => cases l <;> simp [renB] at b3
      | box cells0 =>
        simp only [renB, Option.map_eq_some_iff, Blk.box.injEq] at b3
        obtain ⟨cs, hcs, rfl⟩ := b3
        obtain ⟨hl, hget⟩ := renL_get _ hcs
        obtain ⟨arr, e, h1, h2, h3⟩ := hs.hs.box b cb cells0 b2' a2
        refine ⟨arr, e, h1, by omega, fun j x v hj hv => ?_⟩
        obtain ⟨x0, m, d1, d2, d3⟩ := hget j x hj
        obtain ⟨e1, e2, e3⟩ := h3 j x0 v d1 hv
        exact ⟨renF_one d3 e1, e2.ren hk d3, e3⟩
    · obtain ⟨b, a1, a2⟩ := hG i cb hg
      obtain ⟨b2, blk, b1, b2', b3⟩ := hblk i _ hi
      rw [a1] at b1; cases b1
      cases blk with
      | dead => simp [renB] at b3
      | box cells0 => simp [renB] at b3
      | iter => simp [renB] at b3
      | arr e0 s0 z0 g0 l0 =>
        obtain ⟨arr, cap, h1, h2, h3, h4, h5⟩ := hs.hs.arr b cb e0 s0 z0 g0 l0 b2' a2
        cases l0 with
        | ts l0 =>
          simp [renB] at b3
          obtain ⟨rfl, rfl, rfl, hgg, rfl⟩ := b3
          refine ⟨arr, cap, h1, h2, ⟨h3.1, fun h => h3.2 (newG_odd _ _ _ (by rw [hgg]; exact h))⟩, h4, Rowed.ts.2 fun k x hk' => ⟨(Rowed.ts.1 h5 k x hk').1, fun j y hj => ?_⟩⟩
          obtain ⟨v, k1, k2, k3, k4⟩ := (Rowed.ts.1 h5 k x hk').2 j y hj
          exact ⟨v, k1, k2, k3.mono fun b _ hb => ⟨rfl, fun hm => hb (hM b hm)⟩, k4⟩
        | vs l0 =>
          simp only [renB, Option.map_eq_some_iff] at b3
          obtain ⟨l', hl', b3⟩ := b3
          cases b3
          obtain ⟨hl, hget⟩ := renL_get _ hl'
          refine ⟨arr, cap, h1, h2, by simp only [Sq.length] at h3 ⊢; exact ⟨by omega, fun h => hl.trans (h3.2 (newG_odd _ _ _ h))⟩, h4, fun k x hk' => ?_⟩
          obtain ⟨x0, m, d1, d2, d3⟩ := hget k x hk'
          obtain ⟨q1, q2⟩ := h5 k x0 d1
          have hx0 : x0.one = true ∨ ∃ cs, x0 = .agg cs ∨ ∃ l, x0 = .t (.agg l) := by
            cases m with
            | zero => simp [renF] at d3
            | succ m =>
              cases x0 with
              | agg cs => exact .inr ⟨cs, .inl rfl⟩
              | t x => cases x <;> first | exact .inl rfl | exact .inr ⟨[], .inr ⟨_, rfl⟩⟩
              | tup cs => have := q2 0 (.tup cs) (by simp [AV.cells]); obtain ⟨_, _, h, _⟩ := this; simp [AV.one] at h
              | own => simp [renF] at d3
              | junk => have := q2 0 .junk (by simp [AV.cells]); obtain ⟨_, _, h, _⟩ := this; simp [AV.one] at h
              | _ => exact .inl rfl
          obtain ⟨r1, r2⟩ := renF_cells d3 hx0
          refine ⟨by omega, fun j y hj => ?_⟩
          obtain ⟨y0, m', s1, s2⟩ := r2 j y hj
          obtain ⟨v, t1, t2, t3, t4⟩ := q2 j y0 s1
          exact ⟨v, t1, renF_one s2 t2, t3.ren hk s2, t4⟩
    · obtain ⟨b, a1, a2⟩ := hG i cb hg
      obtain ⟨b2, blk, b1, b2', b3⟩ := hblk i _ hi
      rw [a1] at b1; cases b1
      cases blk with
      | dead => simp [renB] at b3
      | box cells0 => simp [renB] at b3
      | arr e s2 z g l => cases l <;> simp [renB] at b3
      | iter s0 p0 =>
        simp only [renB, Option.some.injEq, Blk.iter.injEq] at b3
        obtain ⟨rfl, rfl⟩ := b3
        exact hs.hs.iter b cb s0 p0 b2' a2
  refine ⟨c', fun t => ?_, hs', hs.size, hs.defers, ?_, hs.below⟩
  · rcases agreeR_lk h t with e | e
    · rw [e]; exact .junk _
    · exact (hs.env t).ren hk e
  · refine ⟨hs.ev.F, hs.ev.size, fun b blk0 hb => ?_, fun cb hm => hs.ev.muts cb (hO cb hm), hs.ev.mem, fun b blk0 hb hf hg => ?_⟩
    · have hlt := lt_of_getElem? hb
      obtain ⟨blk, h1, h2⟩ := hs.ev.blk b blk0 hb
      obtain ⟨bk, blk', k1, k2, k3⟩ := hBg b b (hfix b hlt)
      rw [h1] at k1; cases k1
      exact ⟨blk', k2, goes_ren hlt h2 (by rw [Nat.zero_add] at k3; exact k3) (by simp [c', hfix b hlt])⟩
    · have hlt := lt_of_getElem? hb
      simp only [c', hfix b hlt, Option.bind_some]
      exact hs.ev.late b blk0 hb hf hg

end Go.Proofs.YthpkehhghcpolaaDoor

namespace Go.Proofs.YthpkehhghcpolaaDoor
open Go.RowKit
set_option linter.unusedVariables false
set_option linter.unusedSimpArgs false

theorem more_at {w c H B} (hs : HS w c H B) (X : AH) {b cb : Nat} {blk : Blk} (hg : c.G b = some cb) (hb : (H ++ X)[b]? = some blk) : H[b]? = some blk := by
  rwa [List.getElem?_append_left (hs.dom b cb hg)] at hb

theorem ev_more {w c H B} (hs : HS w c H B) (X : AH) : Ev w c H w c (H ++ X) := by
  have h := Ev.refl w c H
  refine ⟨rfl, Nat.le_refl _, fun b blk hb => ?_, fun cb hm => .inl ?_, fun _ _ _ => rfl, fun _ _ _ _ h => h⟩
  · obtain ⟨blk', h1, h2⟩ := h.blk b blk hb
    exact ⟨blk', by rw [List.getElem?_append_left (lt_of_getElem? h1)]; exact h1, h2⟩
  · obtain ⟨b, bk, hb, hl, hg⟩ := hm
    exact ⟨b, bk, more_at hs X hg hb, hl, hg⟩

theorem hs_more {w c H B} (hs : HS w c H B) (X : AH) : HS w c (H ++ X) B :=
  hs.keep (ev_more hs X) hs.inj hs.base (fun b cb hg => by have := hs.dom b cb hg; rw [List.length_append]; omega) (fun b cb cells hb hg => .inl ⟨more_at hs X hg hb, hg, rfl⟩)
    (fun b cb e s z g l hb hg => .inl ⟨more_at hs X hg hb, hg, rfl⟩) (fun b cb s p hb hg => .inl ⟨more_at hs X hg hb, hg, rfl⟩)

/-- More blocks may stand behind: they say nothing. -/
theorem Weak.more {k0 : Nat} {env : List (Nat × AV)} {H : AH} (X : AH) : Weak k0 ⟨env, H⟩ ⟨env, H ++ X⟩ := fun O c a w _ hs =>
  ⟨c, hs.go (ev_more hs.hs X) (hs_more hs.hs X) (Below.refl _ _)⟩

/-- An empty row may be told either way. -/
theorem Weak.vs0 {k0 : Nat} {env : List (Nat × AV)} {H : AH} {b e s : Nat} {z : Bool} {g : Nat} (hb : H[b]? = some (.arr e s z g (.ts []))) : Weak k0 ⟨env, H⟩ ⟨env, H.set b (.arr e s z g (.vs []))⟩ := fun O c a w _ hs => by
  have hbl := lt_of_getElem? hb
  have get : ∀ (i : Nat) blk, (H.set b (.arr e s z g (.vs [])))[i]? = some blk → (i = b ∧ blk = .arr e s z g (.vs [])) ∨ (i ≠ b ∧ H[i]? = some blk) := fun i blk h => by
    rw [List.getElem?_set] at h
    by_cases hi : b = i
    · subst hi; rw [if_pos rfl, if_pos hbl] at h; exact .inl ⟨rfl, (Option.some.inj h).symm⟩
    · rw [if_neg hi] at h; exact .inr ⟨fun e => hi e.symm, h⟩
  have h0 := Ev.refl w c H
  have ev : Ev w c H w c (H.set b (.arr e s z g (.vs []))) := by
    refine ⟨rfl, Nat.le_refl _, fun i blk hi => ?_, fun cb hm => .inl ?_, fun _ _ _ => rfl, fun _ _ _ _ h => h⟩
    · by_cases hib : b = i
      · subst hib
        rw [hb] at hi; cases hi
        exact ⟨.arr e s z g (.vs []), by rw [List.getElem?_set, if_pos rfl, if_pos hbl], rfl, rfl, rfl, Nat.le_refl _, Nat.le_refl _, fun _ => ⟨rfl, fun _ h => ⟨h, rfl⟩⟩⟩
      · obtain ⟨blk', h1, h2⟩ := h0.blk i blk hi
        exact ⟨blk', by rw [List.getElem?_set, if_neg hib]; exact h1, h2⟩
    · obtain ⟨i, bk, hi, hl, hg⟩ := hm
      rcases get i bk hi with ⟨rfl, rfl⟩ | ⟨_, hi⟩
      · exact ⟨i, _, hb, rfl, hg⟩
      · exact ⟨i, bk, hi, hl, hg⟩
  refine ⟨c, hs.go ev (hs.hs.keep ev hs.hs.inj hs.hs.base (fun i cb hg => by rw [List.length_set]; exact hs.hs.dom i cb hg) (fun i cb cells hi hg => ?_) (fun i cb e' s' z' g' l hi hg => ?_) (fun i cb s' p hi hg => ?_)) (Below.refl _ _)⟩
  · rcases get i _ hi with ⟨_, h⟩ | ⟨_, hi⟩
    · cases h
    · exact .inl ⟨hi, hg, rfl⟩
  · rcases get i _ hi with ⟨rfl, h⟩ | ⟨_, hi⟩
    · cases h
      obtain ⟨arr, cap, a1, a2, a3, a4, _⟩ := hs.hs.arr i cb e s z g _ hb hg
      exact .inr ⟨arr, cap, a1, a2, a3, a4, fun k x hk => by simp [Sq.get] at hk⟩
    · exact .inl ⟨hi, hg, rfl⟩
  · rcases get i _ hi with ⟨_, h⟩ | ⟨_, hi⟩
    · cases h
    · exact .inl ⟨hi, hg, rfl⟩

theorem LoopN.at {k0 : Nat} {body : (Ex → St → Prop) → St → Prop} {Q : Ex → St → Prop} {s s' : St} (h0 : Weak k0 s s') (h : LoopN k0 body Q s') : LoopU k0 body Q s := by
  obtain ⟨I, S, μ, i, h1, h2⟩ := h
  exact ⟨0, I, S, μ, i, h0.trans h1, h2⟩

end Go.Proofs.YthpkehhghcpolaaDoor

namespace Go.Proofs.YthpkehhghcpolaaDoor
open Go.RowKit
set_option linter.unusedVariables false

theorem hide_kill {w : World} {c : Cx} {B : Nat} : ∀ (D : List Nat) {H : AH}, HS w c H B → Ev w c H w c (hide D H) ∧ HS w c (hide D H) B
  | [], H, hs => ⟨Ev.refl _ _ _, hs⟩
  | b :: r, H, hs => by
    obtain ⟨e1, h1⟩ := kill hs b
    obtain ⟨e2, h2⟩ := hide_kill r h1
    exact ⟨e1.trans e2, h2⟩

theorem hide_len : ∀ (D : List Nat) (H : AH), (hide D H).length = H.length
  | [], H => rfl
  | b :: r, H => by simp only [hide]; rw [hide_len r]; simp

/-- The rows that a call is handed are given up. -/
theorem CallS.frz {P : Program} {f : FuncId} {args : List AV} {ts : List T} {ids : List Nat} {r : AV} {H : AH} {Q : AV → AH → Prop} (h : Runs P f ts r) (ha : snapL 32 H args = some (ts, ids))
    (k : Q (imp H.length r).1 (hide ids H ++ (imp H.length r).2)) : CallS P f args H Q := by
  intro B c w vs hs hl hr
  obtain ⟨ev, hs'⟩ := hide_kill ids hs
  obtain ⟨hlen, hrt⟩ := snapL_ok hs (M' := c.M (hide ids H)) (fun cb hm => by
      rcases hm with hm | ⟨b, blk, hb, hlv, hg⟩
      · exact .inl hm
      · rcases hide_back ids hb with rfl | ⟨_, hb⟩
        · simp [Blk.live] at hlv
        · exact .inr ⟨b, blk, hb, hlv, hg⟩) 32 ha (vs := vs.toList) (by simpa using hl.symm) (fun i x v hi hv => hr i x v hi (by simpa using hv))
    (fun b hb cb hg hm => by
      rcases hm with hm | ⟨b2, blk, hb2, hlv, hg2⟩
      · exact ((hs.fb cb hm).2 b hg).elim
      · have := hs.inj b b2 cb hg hg2
        subst this
        rcases hide_back ids hb2 with rfl | ⟨hn, _⟩
        · simp [Blk.live] at hlv
        · exact hn hb)
  have hts : toTs (ts.map .t) = some ts := by
    clear hrt hlen ha h
    induction ts with
    | nil => rfl
    | cons x r ih => simp only [List.map_cons, toTs, toT1, ih]
  have key := CallS.pure (H := hide ids H) (Q := Q) h hts (by rw [hide_len]; exact k) B c w vs hs' (by rw [List.length_map]; omega) (map_t fun i x v hi hv => hrt i x v hi (by simpa using hv))
  refine key.mono ?_
  rintro e w' ⟨v, c', r', H', he, h1, h2, h3, h4, h5⟩
  exact ⟨v, c', r', H', he, h1, h2, ev.trans h3, h4, h5⟩

end Go.Proofs.YthpkehhghcpolaaDoor

namespace Go.Proofs.YthpkehhghcpolaaDoor
open Go.ChangeShapes Go.WideShapes Go.ChangeAt Go.RowKit
set_option linter.unusedVariables false
set_option linter.unusedSimpArgs false

/-- The cells of a value of such a type. -/
inductive HasT (P : Program) : TypeId → List T → Prop
  | bool {t} (ht : P.underlying t = some .bool) (b : Bool) : HasT P t [.bool b]
  | int {t k} (ht : P.underlying t = some (.int k)) (n : Int) (hw : (Lit.int k n).wf = true) : HasT P t [.int k n]
  | str {t} (ht : P.underlying t = some .string) (s : List UInt8) (hl : s.length ≤ reachBytes) : HasT P t [.str s]
  | nils {t e} (ht : P.underlying t = some (.slice e)) : HasT P t [.nils]
  | vec {t e} (ht : P.underlying t = some (.slice e)) (l : List (List T)) (hl : l.length ≤ maxLen) (hb : l.length * P.bytesOf e ≤ reachBytes) (h : ∀ (i : Nat) cs, l[i]? = some cs → HasT P e cs) : HasT P t [.vec (P.cellsOf e) (l.map (mkElem (P.cellsOf e)))]
  | struct {t fs} (ht : P.underlying t = some (.struct fs)) (cs : List T) (hl : cs.length = P.cellsOf t) (h : ∀ f ∈ fs.toList, HasT P f.type ((cs.drop f.offset).take (P.cellsOf f.type))) : HasT P t cs
  | array {t n e} (ht : P.underlying t = some (.array n e)) (cs : List T) (hl : cs.length = P.cellsOf t) (h : ∀ i, i < n → HasT P e ((cs.drop (i * P.cellsOf e)).take (P.cellsOf e))) : HasT P t cs

/-- Do the fields lie one behind the other? -/
def tile (P : Program) (n : Nat) : Nat → List Field → Bool
  | o, [] => Nat.beq o n
  | o, f :: r => Nat.beq f.offset o && tile P n (o + P.cellsOf f.type) r

/-- Types of plain data, closed under what they are made of. -/
def plainTy (P : Program) (S : List TypeId) (t : TypeId) : Bool :=
  match P.underlying t with
  | some .bool => true
  | some (.int _) => true
  | some .string => true
  | some (.slice e) => S.contains e && Nat.ble 1 (P.cellsOf e)
  | some (.struct fs) => fs.toList.all (fun f => S.contains f.type) && tile P (P.cellsOf t) 0 fs.toList
  | some (.array n e) => S.contains e && Nat.beq (n * P.cellsOf e) (P.cellsOf t)
  | _ => false

def plainTys (P : Program) (S : List TypeId) : Bool := S.all (plainTy P S)

/-- No part of it is too large. -/
def Light {H : Type} (P : Program) (t : TypeId) (d : DataW H) : Prop := ∀ n ∈ d.weights P t, n ≤ reachBytes

theorem light_all {H : Type} {P : Program} {e : TypeId} : ∀ {l : List (DataW H)}, (∀ n ∈ DataW.weightsAll P e l, n ≤ reachBytes) → ∀ d ∈ l, Light P e d
  | [], _, d, hd => by simp at hd
  | a :: r, h, d, hd => by
    simp only [DataW.weightsAll, List.mem_append] at h
    rcases List.mem_cons.1 hd with rfl | hd
    · exact fun n hn => h n (.inl hn)
    · exact light_all (fun n hn => h n (.inr hn)) d hd

theorem light_each {H : Type} {P : Program} : ∀ {ts : List TypeId} {l : List (DataW H)}, (∀ n ∈ DataW.weightsEach P ts l, n ≤ reachBytes) → ∀ (i : Nat) t d, ts[i]? = some t → l[i]? = some d → Light P t d
  | [], l, _, i, t, d, hi, _ => by simp at hi
  | _ :: _, [], _, i, t, d, _, hi => by simp at hi
  | a :: ts, b :: r, h, i, t, d, hi, hd => by
    simp only [DataW.weightsEach, List.mem_append] at h
    cases i with
    | zero => simp at hi hd; subst hi hd; exact fun n hn => h n (.inl hn)
    | succ i => simp at hi hd; exact light_each (fun n hn => h n (.inr hn)) i t d hi hd

/-- Cells and what they read as. -/
def Cells (w : World) (ts : List T) (cs : List Value) : Prop := ts.length = cs.length ∧ ∀ (i : Nat) c v, ts[i]? = some c → cs[i]? = some v → RT w (fun _ => False) c v ∧ c.one = true

theorem Cells.append {w : World} {a b : List T} {c d : List Value} (h : Cells w a c) (k : Cells w b d) : Cells w (a ++ b) (c ++ d) := by
  refine ⟨by simp [h.1, k.1], fun i x v hi hv => ?_⟩
  by_cases hlt : i < a.length
  · rw [List.getElem?_append_left hlt] at hi
    rw [List.getElem?_append_left (by rw [← h.1]; exact hlt)] at hv
    exact h.2 i x v hi hv
  · rw [List.getElem?_append_right (by omega)] at hi
    rw [List.getElem?_append_right (by rw [← h.1]; omega), ← h.1] at hv
    exact k.2 _ x v hi hv

section
variable {H : Type} {enc : TypeId × Value → H} {P : Program} {w : World} {sp : Nat → Bool} {held : Bool}

theorem fields_rt {m n : Nat} {cs : List Value} {S : List TypeId} (hcs : cs.length = n)
    (ih : ∀ (t : TypeId) (cs : List Value) x, t ∈ S → DataW.trod enc P w 0 sp held m t cs = some x → Light P t x.1 → ∃ ts, HasT P t ts ∧ Cells w ts cs) :
    ∀ (l : List Field) (o : Nat), o ≤ n → tile P n o l = true → (∀ f ∈ l, f.type ∈ S ∧ ∃ x, DataW.trod enc P w 0 sp held m f.type ((cs.drop f.offset).take (P.cellsOf f.type)) = some x ∧ Light P f.type x.1) → (∀ f ∈ l, f.offset + P.cellsOf f.type ≤ n) →
      ∃ ts, Cells w ts (cs.drop o) ∧ ∀ f ∈ l, o ≤ f.offset ∧ HasT P f.type ((ts.drop (f.offset - o)).take (P.cellsOf f.type))
  | [], o, ho, ht, _, _ => by
    simp only [tile] at ht
    have := Nat.eq_of_beq_eq_true ht
    exact ⟨[], ⟨by simp; omega, by simp⟩, by simp⟩
  | f :: l, o, ho, ht, hl, hn => by
    simp only [tile, Bool.and_eq_true] at ht
    have he := Nat.eq_of_beq_eq_true ht.1
    obtain ⟨hS, x, hx, hxl⟩ := hl f (by simp)
    have hfn := hn f (by simp)
    obtain ⟨t1, h1, c1⟩ := ih _ _ x hS hx hxl
    obtain ⟨t2, c2, h2⟩ := fields_rt hcs ih l (o + P.cellsOf f.type) (by omega) ht.2 (fun g hg => hl g (by simp [hg])) (fun g hg => hn g (by simp [hg]))
    rw [he] at c1 hx
    have hl1 : t1.length = P.cellsOf f.type := by rw [c1.1]; simp; omega
    refine ⟨t1 ++ t2, ?_, fun g hg => ?_⟩
    · have := c1.append c2
      rw [← List.drop_drop, List.take_append_drop] at this
      exact this
    · rcases List.mem_cons.1 hg with rfl | hg
      · refine ⟨by omega, ?_⟩
        rw [he, Nat.sub_self, List.drop_zero, ← hl1, List.take_left]
        exact h1
      · obtain ⟨k1, k2⟩ := h2 g hg
        refine ⟨by omega, ?_⟩
        rw [List.drop_append, show t1.drop (g.offset - o) = [] from List.drop_eq_nil_of_le (by omega), List.nil_append, hl1, show g.offset - o - P.cellsOf f.type = g.offset - (o + P.cellsOf f.type) by omega]
        exact k2

theorem tile_le {n : Nat} : ∀ {l : List Field} {o : Nat}, tile P n o l = true → o ≤ n ∧ ∀ f ∈ l, f.offset + P.cellsOf f.type ≤ n
  | [], o, h => by simp only [tile] at h; exact ⟨Nat.le_of_eq (Nat.eq_of_beq_eq_true h), by simp⟩
  | f :: l, o, h => by
    simp only [tile, Bool.and_eq_true] at h
    have he := Nat.eq_of_beq_eq_true h.1
    obtain ⟨h1, h2⟩ := tile_le h.2
    refine ⟨by omega, fun g hg => ?_⟩
    rcases List.mem_cons.1 hg with rfl | hg
    · omega
    · exact h2 g hg

theorem elems_rt {m s n : Nat} {cs : List Value} {e : TypeId}
    (ih : ∀ i, i < n → ∃ ts, HasT P e ts ∧ Cells w ts ((cs.drop (i * s)).take s)) (hcs : cs.length = n * s) : ∀ k, k ≤ n →
      ∃ ts, Cells w ts (cs.drop (k * s)) ∧ ∀ i, k ≤ i → i < n → HasT P e ((ts.drop (i * s - k * s)).take s) := by
  intro k hk
  obtain ⟨j, rfl⟩ : ∃ j, n = k + j := ⟨n - k, by omega⟩
  clear hk
  induction j generalizing k with
  | zero => exact ⟨[], ⟨by simp [hcs], by simp⟩, fun i h1 h2 => by omega⟩
  | succ j ihj =>
    obtain ⟨t1, h1, c1⟩ := ih k (by omega)
    obtain ⟨t2, c2, h2⟩ := ihj (k + 1) (fun i hi => ih i (by omega)) (by rw [hcs]; congr 1; omega)
    have hle : (k + 1) * s ≤ (k + (j + 1)) * s := Nat.mul_le_mul_right _ (by omega)
    have hk1 : (k + 1) * s = k * s + s := by rw [Nat.add_mul, Nat.one_mul]
    have hl1 : t1.length = s := by rw [c1.1]; simp; omega
    refine ⟨t1 ++ t2, ?_, fun i hi1 hi2 => ?_⟩
    · have := c1.append c2
      rw [hk1, ← List.drop_drop, List.take_append_drop] at this
      exact this
    · by_cases e : i = k
      · subst e
        rw [Nat.sub_self, List.drop_zero, ← hl1, List.take_left]
        exact h1
      · have h3 : (k + 1) * s ≤ i * s := Nat.mul_le_mul_right _ (by omega)
        rw [List.drop_append, show t1.drop (i * s - k * s) = [] from List.drop_eq_nil_of_le (by omega), List.nil_append, hl1, show i * s - k * s - s = i * s - (k + 1) * s by omega]
        exact h2 i (by omega) (by omega)

theorem cell_spot {a : Addr} {v : Value} (h : w.cell? a = some v) : a.spot = none := by
  unfold World.cell? at h
  split at h
  · split at h
    · cases h
    · rename_i hs; simpa using hs
  · cases h

theorem trod_rt {S : List TypeId} (hS : plainTys P S = true) : ∀ (fuel : Nat) (t : TypeId) (cs : List Value) x, t ∈ S → DataW.trod enc P w 0 sp held fuel t cs = some x → Light P t x.1 → ∃ ts, HasT P t ts ∧ Cells w ts cs
  | 0, t, cs, x, _, h, _ => by simp [DataW.trod] at h
  | fuel + 1, t, cs, x, ht, h, hwt => by
    have ih := trod_rt hS fuel
    have hp : plainTy P S t = true := by
      unfold plainTys at hS; rw [List.all_eq_true] at hS; exact hS t ht
    unfold plainTy at hp
    have single : ∀ {c : T} {v : Value}, RT w (fun _ => False) c v → c.one = true → Cells w [c] [v] := by
      intro c v h1 h2
      refine ⟨rfl, fun i c' v' hi hv => ?_⟩
      match i with
      | 0 => cases hi; cases hv; exact ⟨h1, h2⟩
      | i + 1 => simp at hi
    split at hp
    · rename_i hu
      obtain ⟨b, rfl, _⟩ := DataW.trod_bool hu h
      exact ⟨_, .bool hu b, single (.bool b) rfl⟩
    · rename_i k hu
      obtain ⟨n, rfl, _, hw⟩ := DataW.trod_int hu h
      exact ⟨_, .int hu n hw, single (.int k n) rfl⟩
    · rename_i hu
      obtain ⟨s, rfl, rfl, hs⟩ := DataW.trod_string hu h
      exact ⟨_, .str hu s.data.toList (by have := hwt s.data.toList.length (by simp [DataW.weights]); exact this), single (.str s) rfl⟩
    · rename_i e hu
      simp only [Bool.and_eq_true] at hp
      have heS : e ∈ S := by simpa using hp.1
      have hs1 := Nat.le_of_ble_eq_true hp.2
      rcases DataW.trod_slice hu h with ⟨rfl, _⟩ | ⟨a, len, cap, elems, rest, n, hn, rfl, rfl, _, hl, hm, hlen, hel, _, _⟩
      · exact ⟨_, .nils hu, single .nils rfl⟩
      · obtain rfl : fuel = n := by omega
        simp only [Light, DataW.weights, hu, List.length_map, List.mem_cons, List.mem_append] at hwt
        have hbytes : len * P.bytesOf e ≤ reachBytes := Nat.le_trans (Nat.mul_le_mul_right _ (by omega)) (hwt _ (.inl rfl))
        have hlight := light_all (P := P) (e := e) (l := elems.map (·.1)) fun n hn => hwt n (.inr (.inl hn))
        have each : ∀ i, ∃ p : List Value × List T, i < len → HasT P e p.2 ∧ Cells w p.2 p.1 ∧ p.1.length = P.cellsOf e ∧ ∀ j, j < P.cellsOf e → w.cell? ((a.add (i * P.cellsOf e)).add j) = p.1[j]? := by
          intro i
          by_cases hi : i < len
          · have h1 := hel i hi
            obtain ⟨y, hy⟩ : ∃ y, elems[i]? = some y := ⟨elems[i]'(by omega), List.getElem?_eq_getElem _⟩
            rw [hy, Option.bind_eq_some_iff] at h1
            obtain ⟨vs, h2, h3⟩ := h1
            obtain ⟨ts, k1, k2⟩ := ih e vs y heS h3 (hlight _ (List.mem_map.2 ⟨y, List.mem_of_getElem? hy, rfl⟩))
            obtain ⟨_, h4, h5⟩ := World.cells?_some h2
            exact ⟨(vs, ts), fun _ => ⟨k1, k2, h4, fun j hj => h5 j hj⟩⟩
          · exact ⟨([], []), fun h => (hi h).elim⟩
        obtain ⟨f, hf⟩ := Classical.skolem.1 each
        have hspot : len ≠ 0 → a.spot = none := fun hne => by
          obtain ⟨_, _, h4, h5⟩ := hf 0 (by omega)
          have h6 := h5 0 (by omega)
          rw [Nat.zero_mul] at h6
          have e0 : ∀ a : Addr, a.add 0 = a := fun a => rfl
          rw [e0, e0, List.getElem?_eq_getElem (by omega)] at h6
          exact cell_spot h6
        obtain ⟨b, off, spt⟩ := a
        let l := (List.range len).map fun i => (f i).2
        have hll : l.length = len := by simp [l]
        have hget : ∀ (i : Nat) cs, l[i]? = some cs → i < len ∧ cs = (f i).2 := by
          intro i cs hi
          have hlt := lt_of_getElem? hi
          rw [hll] at hlt
          simp [l, hlt] at hi
          exact ⟨hlt, hi.symm⟩
        have hge : ∀ (i : Nat) e', (l.map (mkElem (P.cellsOf e)))[i]? = some e' → i < len ∧ e'.cells = (f i).2 := by
          intro i e' hi
          simp only [List.getElem?_map, Option.map_eq_some_iff] at hi
          obtain ⟨cs, hi, rfl⟩ := hi
          obtain ⟨hlt, rfl⟩ := hget i cs hi
          refine ⟨hlt, mkElem_cells ?_ ?_ hs1⟩
          · obtain ⟨_, k2, k3, _⟩ := hf i hlt; rw [k2.1, k3]
          · obtain ⟨_, k2, k3, _⟩ := hf i hlt
            rw [List.all_eq_true]
            intro c hc
            obtain ⟨j, hj⟩ := List.getElem?_of_mem hc
            have hjl := lt_of_getElem? hj
            rw [k2.1] at hjl
            exact (k2.2 j c _ hj (List.getElem?_eq_getElem hjl)).2
        refine ⟨_, .vec hu l (by rw [hll]; omega) (by rw [hll]; exact hbytes) (fun i cs hi => by obtain ⟨hlt, rfl⟩ := hget i cs hi; exact (hf i hlt).1), single ?_ rfl⟩
        have := RT.vec (w := w) (M := fun _ => False) (P.cellsOf e) (l.map (mkElem (P.cellsOf e))) b off cap spt (fun i j => (f i).1.getD j undef) (fun _ _ h => h) (by simp [hll]; exact hl)
          (fun hne => hspot (fun e0 => hne (by have : l = [] := List.eq_nil_of_length_eq_zero (by omega); simp [this])))
          (fun i e' hi => by obtain ⟨hlt, he'⟩ := hge i e' hi; obtain ⟨_, k2, k3, _⟩ := hf i hlt; rw [he', k2.1, k3])
          (fun i e' j c hi hj => by
            obtain ⟨hlt, he'⟩ := hge i e' hi
            obtain ⟨_, k2, k3, k4⟩ := hf i hlt
            rw [he'] at hj
            have hjl := lt_of_getElem? hj
            rw [k2.1, k3] at hjl
            have h6 := k4 j hjl
            have hs0 : spt = none := hspot (by omega)
            subst hs0
            rw [Addr.add_lit, Addr.add_lit] at h6
            have hv : (f i).1[j]? = some ((f i).1[j]'(by omega)) := List.getElem?_eq_getElem _
            refine ⟨by rw [h6, hv]; simp [List.getD_eq_getElem?_getD, hv], (k2.2 j c _ hj hv).2⟩)
          (fun i e' j c hi hj => by
            obtain ⟨hlt, he'⟩ := hge i e' hi
            obtain ⟨_, k2, k3, k4⟩ := hf i hlt
            rw [he'] at hj
            have hjl := lt_of_getElem? hj
            rw [k2.1, k3] at hjl
            have hv : (f i).1[j]? = some ((f i).1[j]'(by omega)) := List.getElem?_eq_getElem _
            have := (k2.2 j c _ hj hv).1
            simpa [List.getD_eq_getElem?_getD, hv] using this)
        rw [List.length_map, hll] at this
        exact this
    · rename_i fs hu
      simp only [Bool.and_eq_true, List.all_eq_true] at hp
      obtain ⟨xs, n, hn, rfl, hl, hxl, hx⟩ := DataW.trod_struct hu h
      obtain rfl : fuel = n := by omega
      simp only [Light, DataW.weights, hu] at hwt
      have hlight := light_each hwt
      obtain ⟨_, hle⟩ := tile_le hp.2
      obtain ⟨ts, c1, h1⟩ := fields_rt (m := fuel) hl ih fs.toList 0 (Nat.zero_le _) hp.2 (fun f hf => by
        refine ⟨by simpa using hp.1 f hf, ?_⟩
        obtain ⟨i, hi⟩ := List.getElem?_of_mem hf
        have hlt := lt_of_getElem? hi
        have := hx i f (by rw [← Array.getElem?_toList]; exact hi)
        rw [this]
        have hxi : xs[i]? = some (xs[i]'(by simp at hlt; omega)) := List.getElem?_eq_getElem _
        exact ⟨_, hxi, hlight i _ _ (by simp only [List.getElem?_map, hi, Option.map_some]) (by simp only [List.getElem?_map, hxi, Option.map_some])⟩) hle
      rw [List.drop_zero] at c1
      exact ⟨ts, .struct hu ts (by rw [c1.1, hl]) (fun f hf => by have := (h1 f hf).2; rwa [Nat.sub_zero] at this), c1⟩
    · rename_i n e hu
      simp only [Bool.and_eq_true] at hp
      obtain ⟨xs, m, hn, rfl, hl, hxl, hx⟩ := DataW.trod_array hu h
      obtain rfl : fuel = m := by omega
      simp only [Light, DataW.weights, hu] at hwt
      have hlight := light_all hwt
      have hne := Nat.eq_of_beq_eq_true hp.2
      obtain ⟨ts, c1, h1⟩ := elems_rt (m := 0) (s := P.cellsOf e) (n := n) (cs := cs) (e := e) (fun i hi => by
        have := hx i hi
        have h2 : xs[i]? = some (xs[i]'(by omega)) := List.getElem?_eq_getElem _
        rw [h2] at this
        exact ih e _ _ (by simpa using hp.1) this (hlight _ (List.mem_map.2 ⟨_, List.mem_of_getElem? h2, rfl⟩))) (by rw [hl, hne]) 0 (Nat.zero_le _)
      rw [Nat.zero_mul, List.drop_zero] at c1
      exact ⟨ts, .array hu ts (by rw [c1.1, hl]) (fun i hi => by have := h1 i (Nat.zero_le _) hi; rwa [Nat.zero_mul, Nat.sub_zero] at this), c1⟩
    · cases hp

/-- A value of such a type, as data. -/
def argOf (P : Program) (t : TypeId) (cs : List T) : T :=
  match P.underlying t with
  | some (.struct _) => .agg cs
  | some (.array _ _) => .agg cs
  | _ => cs.headD .nilp

theorem Cells.agg {ts : List T} {cs : Array Value} (h : Cells w ts cs.toList) : RT w (fun _ => False) (.agg ts) (.agg cs) :=
  .agg ts cs (by rw [h.1]; simp) (fun i c hi => by
    have hlt := lt_of_getElem? hi
    rw [h.1] at hlt
    exact (h.2 i c _ hi (List.getElem?_eq_getElem hlt)).2) (fun i c v hi hv => (h.2 i c v hi (by simpa using hv)).1)

/-- An argument that came in. -/
theorem open_arg {S : List TypeId} (hS : plainTys P S = true) {t : TypeId} (ht : t ∈ S) {r : Reach} {b0 : Nat} {v : Value} {d : DataW H} {ps : List MemPlace} (hval : Value.okWide P w r b0 t v) (hd : DataW.Trod enc P w 0 sp held t v d ps) (hwt : Light P t d) :
    ∃ cs, HasT P t cs ∧ RT w (fun _ => False) (argOf P t cs) v := by
  obtain ⟨fuel, hf⟩ := hd
  obtain ⟨ts, h1, c1⟩ := trod_rt hS fuel t _ _ ht hf hwt
  refine ⟨ts, h1, ?_⟩
  have hp : plainTy P S t = true := by
    unfold plainTys at hS; rw [List.all_eq_true] at hS; exact hS t ht
  unfold plainTy at hp
  unfold Value.okWide at hval
  unfold argOf
  have one : (∀ cs, v ≠ .agg cs) → RT w (fun _ => False) (ts.headD .nilp) v := by
    intro hne
    have hv : v.cells = #[v] := by cases v <;> first | rfl | exact (hne _ rfl).elim
    rw [hv] at c1
    have hl : ts.length = 1 := c1.1
    match ts, hl, c1 with
    | [c], _, c1 => exact (c1.2 0 c v rfl rfl).1
  split at hp
  · rename_i hu; rw [hu] at hval ⊢
    exact one fun cs e => by subst e; simp [Cell.okWide, hu, Cell.ok] at hval
  · rename_i hu; rw [hu] at hval ⊢
    exact one fun cs e => by subst e; simp [Cell.okWide, hu, Cell.ok] at hval
  · rename_i hu; rw [hu] at hval ⊢
    exact one fun cs e => by subst e; simp [Cell.okWide, hu, Cell.ok] at hval
  · rename_i hu; rw [hu] at hval ⊢
    exact one fun cs e => by subst e; simp [Cell.okWide, hu, Cell.ok] at hval
  · rename_i hu; rw [hu] at hval ⊢
    obtain ⟨cs, rfl, _⟩ := hval
    exact c1.agg
  · rename_i hu; rw [hu] at hval ⊢
    obtain ⟨cs, rfl, _⟩ := hval
    exact c1.agg
  · cases hp

theorem light_here {P : Program} {t : TypeId} {ts : List TypeId} {d : DataW H} {r : List (DataW H)} (h : ∀ n ∈ DataW.weightsEach P (t :: ts) (d :: r), n ≤ reachBytes) : Light P t d ∧ ∀ n ∈ DataW.weightsEach P ts r, n ≤ reachBytes := by
  simp only [DataW.weightsEach, List.mem_append] at h
  exact ⟨fun n hn => h n (.inl hn), fun n hn => h n (.inr hn)⟩

end
end Go.Proofs.YthpkehhghcpolaaDoor

namespace Go.Proofs.YthpkehhghcpolaaDoor
open Go.ChangeShapes Go.WideShapes Go.ChangeAt Go.RowKit
set_option linter.unusedVariables false
set_option linter.unusedSimpArgs false

section
variable {P : Program} {t e : TypeId} {cs : List T}

theorem HasT.int' {k : IntKind} (ht : P.underlying t = some (.int k)) (h : HasT P t cs) : ∃ n, cs = [.int k n] ∧ (Lit.int k n).wf = true := by
  cases h with
  | int hu n hw => rw [ht] at hu; cases hu; exact ⟨n, rfl, hw⟩
  | bool hu => rw [ht] at hu; cases hu
  | str hu => rw [ht] at hu; cases hu
  | nils hu => rw [ht] at hu; cases hu
  | vec hu => rw [ht] at hu; cases hu
  | struct hu => rw [ht] at hu; cases hu
  | array hu => rw [ht] at hu; cases hu

theorem HasT.slice' (ht : P.underlying t = some (.slice e)) (h : HasT P t cs) :
    cs = [.nils] ∨ ∃ l : List (List T), (l.length ≤ maxLen ∧ l.length * P.bytesOf e ≤ reachBytes) ∧ (∀ (i : Nat) c, l[i]? = some c → HasT P e c) ∧ cs = [.vec (P.cellsOf e) (l.map (mkElem (P.cellsOf e)))] := by
  cases h with
  | nils hu => exact .inl rfl
  | vec hu l hl hb h => rw [ht] at hu; cases hu; exact .inr ⟨l, ⟨hl, hb⟩, h, rfl⟩
  | bool hu => rw [ht] at hu; cases hu
  | int hu => rw [ht] at hu; cases hu
  | str hu => rw [ht] at hu; cases hu
  | struct hu => rw [ht] at hu; cases hu
  | array hu => rw [ht] at hu; cases hu

theorem HasT.struct' {fs : Array Field} (ht : P.underlying t = some (.struct fs)) (h : HasT P t cs) : cs.length = P.cellsOf t ∧ ∀ f ∈ fs.toList, HasT P f.type ((cs.drop f.offset).take (P.cellsOf f.type)) := by
  cases h with
  | struct hu cs hl h => rw [ht] at hu; cases hu; exact ⟨hl, h⟩
  | bool hu => rw [ht] at hu; cases hu
  | int hu => rw [ht] at hu; cases hu
  | str hu => rw [ht] at hu; cases hu
  | nils hu => rw [ht] at hu; cases hu
  | vec hu => rw [ht] at hu; cases hu
  | array hu => rw [ht] at hu; cases hu

theorem HasT.bytes' (ht : P.underlying t = some (.slice e)) (he : P.underlying e = some (.int .u8)) (hc : P.cellsOf e = 1) (hb1 : P.bytesOf e = 1) (h : HasT P t cs) :
    cs = [.nils] ∨ ∃ bs : List UInt8, bs.length ≤ 140737488351232 ∧ cs = [.vec 1 (bs.map fun c => T.int .u8 (c.toNat : Int))] := by
  rcases h.slice' ht with h0 | ⟨l, hl, h0, rfl⟩
  · exact .inl h0
  refine .inr ?_
  rw [hc]
  have key : ∀ l : List (List T), (∀ (i : Nat) c, l[i]? = some c → HasT P e c) → ∃ bs : List UInt8, l.map (mkElem 1) = bs.map fun c => T.int .u8 (c.toNat : Int) := by
    intro l
    induction l with
    | nil => intro _; exact ⟨[], rfl⟩
    | cons x r ih =>
      intro h
      obtain ⟨bs, hb⟩ := ih fun i c hi => h (i + 1) c hi
      obtain ⟨n, hx, hw⟩ := (h 0 x rfl).int' he
      simp only [Lit.wf, Bool.and_eq_true, decide_eq_true_eq] at hw
      have hw : 0 ≤ n ∧ n ≤ 255 := hw
      refine ⟨UInt8.ofNat n.toNat :: bs, ?_⟩
      rw [hx, List.map_cons, List.map_cons, hb]
      congr 1
      show T.int .u8 n = _
      rw [UInt8.toNat_ofNat_of_lt' (by simp [UInt8.size]; omega)]
      congr 1
      omega
  obtain ⟨bs, hb⟩ := key l h0
  rw [hb]
  exact ⟨bs, by have := congrArg List.length hb; have := hl.2; rw [hb1] at this; simp [reachBytes] at *; omega, rfl⟩

end

theorem i64_wf {a : Int} (w : (Lit.int .i64 a).wf = true) : -9223372036854775808 ≤ a ∧ a ≤ 9223372036854775807 := by
  simp only [Lit.wf, Bool.and_eq_true, decide_eq_true_eq] at w
  exact w
theorem trod_old {H : Type} {enc : TypeId × Value → H} {P : Program} {w : World} {base : Nat} {sp : Nat → Bool} {held : Bool} {t : TypeId} {v : Value} {d : DataW H} {ps : List MemPlace} (h : DataW.Trod enc P w base sp held t v d ps) :
    ∀ x ∈ ps, x.block < w.heap.size := by
  obtain ⟨fuel, hf⟩ := h
  exact DataW.trod_lt fuel t _ _ hf

end Go.Proofs.YthpkehhghcpolaaDoor
