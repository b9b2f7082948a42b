/-
  Contracts of functions: from plain data to plain data ('Runs'); in the midst of a walk ('CallS').
-/
import Derived.Test.YthpkehhghcpolaaDoorOps6
namespace Go.Proofs.YthpkehhghcpolaaDoor
open Go.RowKit
set_option linter.unusedVariables false
set_option linter.unusedSimpArgs false

/-! ### What a function hands back -/

def imp1 (n : Nat) : AV → AV × List Blk
  | .own e s z l => (.sl n 0 0 l.length, [.arr e s z 0 (.ts l)])
  | x => (x, [])

def impL (n : Nat) : List AV → List AV × List Blk
  | [] => ([], [])
  | x :: r => ((imp1 n x).1 :: (impL (n + (imp1 n x).2.length) r).1, (imp1 n x).2 ++ (impL (n + (imp1 n x).2.length) r).2)

def imp2 (n : Nat) : AV → AV × List Blk
  | .agg cs => (.agg (impL n cs).1, (impL n cs).2)
  | x => imp1 n x

def impL2 (n : Nat) : List AV → List AV × List Blk
  | [] => ([], [])
  | x :: r => ((imp2 n x).1 :: (impL2 (n + (imp2 n x).2.length) r).1, (imp2 n x).2 ++ (impL2 (n + (imp2 n x).2.length) r).2)

/-- What is handed back, as a walk takes it: rows of its own for what is new memory. -/
def imp (n : Nat) : AV → AV × List Blk
  | .tup vs => (.tup (impL2 n vs).1, (impL2 n vs).2)
  | x => imp2 n x

def noRef1 : AV → Bool
  | .t _ => true
  | .own _ _ _ _ => true
  | .emp => true
  | .junk => true
  | _ => false

def noRef2 : AV → Bool
  | .agg cs => cs.all noRef1
  | x => noRef1 x

def noRef : AV → Bool
  | .tup vs => vs.all noRef2
  | x => noRef2 x

/-- All blocks that are named have numbers from n on. -/
inductive GE (n : Nat) : AV → Prop
  | t (x) : GE n (.t x)
  | ptr (b g i o) (h : n ≤ b) : GE n (.ptr b g i o)
  | sl (b g i l) (h : n ≤ b) : GE n (.sl b g i l)
  | agg (cs) (h : ∀ (i : Nat) x, cs[i]? = some x → GE n x) : GE n (.agg cs)
  | tup (cs) (h : ∀ (i : Nat) x, cs[i]? = some x → GE n x) : GE n (.tup cs)
  | fn (f a b) (ha : ∀ (i : Nat) x, a[i]? = some x → GE n x) (hb : ∀ (i : Nat) x, b[i]? = some x → GE n x) : GE n (.fn f a b)
  | ifc (t x) (h : GE n x) : GE n (.ifc t x)
  | emp : GE n .emp
  | junk : GE n .junk

theorem GE.le {n m : Nat} (hnm : m ≤ n) {x : AV} (h : GE n x) : GE m x := by
  induction h with
  | t x => exact .t x
  | ptr b g i o h => exact .ptr b g i o (by omega)
  | sl b g i l h => exact .sl b g i l (by omega)
  | agg cs _ ih => exact .agg cs ih
  | tup cs _ ih => exact .tup cs ih
  | fn f a b _ _ iha ihb => exact .fn f a b iha ihb
  | ifc t x _ ih => exact .ifc t x ih
  | emp => exact .emp
  | junk => exact .junk

theorem imp1_ge {n : Nat} {x : AV} (h : noRef1 x = true) : GE n (imp1 n x).1 := by
  cases x <;> simp [noRef1] at h
  · exact .t _
  · exact .sl _ _ _ _ (Nat.le_refl _)
  · exact .emp
  · exact .junk

theorem impL_ge {n : Nat} : ∀ {l : List AV} {n : Nat}, l.all noRef1 = true → ∀ (i : Nat) x, (impL n l).1[i]? = some x → GE n x
  | [], n, _, i, x, hi => by simp [impL] at hi
  | a :: r, n, h, i, x, hi => by
    simp only [List.all_cons, Bool.and_eq_true] at h
    simp only [impL] at hi
    cases i with
    | zero => simp at hi; subst hi; exact imp1_ge h.1
    | succ i => simp at hi; exact (impL_ge (n := n) h.2 i x hi).le (Nat.le_add_right _ _)

theorem imp2_ge {n : Nat} {x : AV} (h : noRef2 x = true) : GE n (imp2 n x).1 := by
  unfold noRef2 at h
  split at h
  · exact .agg _ (impL_ge (n := n) h)
  · rename_i hne
    have : imp2 n x = imp1 n x := by cases x <;> first | rfl | (exact (hne _ rfl).elim)
    rw [this]; exact imp1_ge h

theorem impL2_ge {n : Nat} : ∀ {l : List AV} {n : Nat}, l.all noRef2 = true → ∀ (i : Nat) x, (impL2 n l).1[i]? = some x → GE n x
  | [], n, _, i, x, hi => by simp [impL2] at hi
  | a :: r, n, h, i, x, hi => by
    simp only [List.all_cons, Bool.and_eq_true] at h
    simp only [impL2] at hi
    cases i with
    | zero => simp at hi; subst hi; exact imp2_ge h.1
    | succ i => simp at hi; exact (impL2_ge (n := n) h.2 i x hi).le (Nat.le_add_right _ _)

theorem imp_ge {n : Nat} {x : AV} (h : noRef x = true) : GE n (imp n x).1 := by
  unfold noRef at h
  split at h
  · exact .tup _ (impL2_ge (n := n) h)
  · rename_i hne
    have : imp n x = imp2 n x := by cases x <;> first | rfl | (exact (hne _ rfl).elim)
    rw [this]; exact imp2_ge h

def Blk.isTs : Blk → Bool
  | .arr _ _ _ _ (.ts _) => true
  | _ => false

theorem imp1_arr (n : Nat) (x : AV) : (imp1 n x).2.all Blk.isTs = true := by cases x <;> rfl

theorem impL_arr : ∀ (l : List AV) (n : Nat), (impL n l).2.all Blk.isTs = true
  | [], n => rfl
  | a :: r, n => by simp only [impL, List.all_append, imp1_arr, impL_arr r, Bool.and_self]

theorem imp2_arr (n : Nat) (x : AV) : (imp2 n x).2.all Blk.isTs = true := by
  cases x <;> first | exact impL_arr _ _ | exact imp1_arr _ _

theorem impL2_arr : ∀ (l : List AV) (n : Nat), (impL2 n l).2.all Blk.isTs = true
  | [], n => rfl
  | a :: r, n => by simp only [impL2, List.all_append, imp2_arr, impL2_arr r, Bool.and_self]

theorem imp_arr (n : Nat) (x : AV) : (imp n x).2.all Blk.isTs = true := by
  cases x <;> first | exact impL2_arr _ _ | exact imp2_arr _ _

/-- What is read at blocks from n on is so in another state that has these blocks. -/
theorem RA.shift {w : World} {c1 c2 : Cx} {H1 H2 : AH} {n : Nat} (hM : ∀ cb, ¬ c1.M H1 cb → ¬ c2.M H2 cb) (hH : ∀ b, n ≤ b → H1[b]? = H2[b]?) (hG : ∀ b, n ≤ b → c1.G b = c2.G b)
    {x : AV} {v : Value} (h : RA w c1 H1 x v) (hx : GE n x) : RA w c2 H2 x v := by
  induction h with
  | t x v h => exact .t x v (h.mono fun b _ hb => ⟨rfl, hM b hb⟩)
  | ptr b g i o v blk hb hm hv =>
    cases hx with | ptr _ _ _ _ hn =>
    refine .ptr b g i o v blk (by rw [← hH b hn]; exact hb) ?_ hv
    cases blk with
    | dead => trivial
    | box => rw [← hG b hn]; exact hm
    | iter => rw [← hG b hn]; exact hm
    | arr => rw [← hG b hn]; exact hm
  | sl b g i len v blk hb hm hv =>
    cases hx with | sl _ _ _ _ hn =>
    refine .sl b g i len v blk (by rw [← hH b hn]; exact hb) ?_ hv
    cases blk with
    | dead => trivial
    | box => exact hm
    | iter => exact hm
    | arr => rw [← hG b hn]; exact hm
  | agg cs vs hl h1 _ ih => cases hx with | agg _ hx => exact .agg cs vs hl h1 fun i x v hi hv => ih i x v hi hv (hx i x hi)
  | tup cs vs hl _ ih => cases hx with | tup _ hx => exact .tup cs vs hl fun i x v hi hv => ih i x v hi hv (hx i x hi)
  | fn f a b p q ha hb _ _ iha ihb => cases hx with | fn _ _ _ h1 h2 => exact .fn f a b p q ha hb (fun i x v hi hv => iha i x v hi hv (h1 i x hi)) (fun i x v hi hv => ihb i x v hi hv (h2 i x hi))
  | ifc t x v _ ih => cases hx with | ifc _ _ hx => exact .ifc t x v (ih hx)
  | emp ad => exact .emp ad
  | junk v => exact .junk v

/-! ### Data without memory -/

def flat1 : T → Bool
  | .bool _ => true
  | .int _ _ => true
  | .str _ => true
  | .nilp => true
  | .nils => true
  | .nilf => true
  | .nili => true
  | _ => false

def flatT : T → Bool
  | .agg cs => cs.all flat1
  | x => flat1 x

theorem flat1_rt {w w' : World} {M M' : Nat → Prop} {x : T} {v : Value} (h : RT w M x v) (hf : flat1 x = true) : RT w' M' x v := by
  cases h <;> first | (simp [flat1] at hf; done) | constructor

theorem flatT_rt {w w' : World} {M M' : Nat → Prop} {x : T} {v : Value} (h : RT w M x v) (hf : flatT x = true) : RT w' M' x v := by
  cases h with
  | agg cs vs hl h1 hr =>
    simp only [flatT, List.all_eq_true] at hf
    exact .agg cs vs hl h1 fun i c v hi hv => flat1_rt (hr i c v hi hv) (hf c (List.mem_of_getElem? hi))
  | bool => exact .bool _
  | int => exact .int _ _
  | str => exact .str _
  | nilp => exact .nilp
  | nils => exact .nils
  | nilf => exact .nilf
  | nili => exact .nili
  | iptr => simp [flatT, flat1] at hf
  | vec => simp [flatT, flat1] at hf
  | fn => simp [flatT, flat1] at hf
  | ifc => simp [flatT, flat1] at hf

theorem flatT_cells {x : T} (hf : flatT x = true) : ∀ (j : Nat) y, x.cells[j]? = some y → flat1 y = true := by
  intro j y hj
  cases x with
  | agg cs => simp only [flatT, List.all_eq_true] at hf; exact hf y (List.mem_of_getElem? hj)
  | _ => cases j <;> simp [T.cells] at hj <;> subst hj <;> exact hf

def Flat1 : AV → Prop
  | .t x => flatT x = true
  | .own _ _ _ l => ∀ x ∈ l, flatT x = true
  | .junk => True
  | _ => False

def FlatL : List AV → Prop
  | [] => True
  | x :: r => Flat1 x ∧ FlatL r

def Flat2 : AV → Prop
  | .agg cs => FlatL cs
  | x => Flat1 x

def FlatL2 : List AV → Prop
  | [] => True
  | x :: r => Flat2 x ∧ FlatL2 r

/-- What is handed back leads to no memory but to new rows of data without memory. -/
def Flat : AV → Prop
  | .tup vs => FlatL2 vs
  | x => Flat2 x

/-! ### Contracts -/

def Enters (P : Program) (f : FuncId) : Prop := ∃ fn, P.funcs[f]? = some fn ∧ fn.body.isSome = true ∧ (fn.name == "runtime.NumGoroutine") = false

/-- What comes of a call: of a function's body, or of one that the model itself knows. -/
def Gets (P : Program) (f : FuncId) (vs : Array Value) (w : World) (Q : Ending → World → Prop) : Prop :=
  (Enters P f ∧ Calls P f vs w Q) ∨ ∃ v w', (callFunc f vs).run P w = .ok (.value v) w' ∧ Q (.returned v) w'

theorem Gets.mono {P : Program} {f : FuncId} {vs : Array Value} {w : World} {Q Q' : Ending → World → Prop} (h : Gets P f vs w Q) (hq : ∀ e w', Q e w' → Q' e w') : Gets P f vs w Q' :=
  h.imp (fun h => ⟨h.1, h.2.mono hq⟩) fun ⟨v, w', h1, h2⟩ => ⟨v, w', h1, hq _ _ h2⟩

def Runs (P : Program) (f : FuncId) (ts : List T) (r : AV) : Prop :=
  noRef r = true ∧ ∀ (n : Nat) (F : Nat → Prop) (w : World) (vs : Array Value), (∀ cb, F cb → cb < w.heap.size) → vs.size = ts.length →
    (∀ (i : Nat) t v, ts[i]? = some t → vs[i]? = some v → RT w F t v) →
    Gets P f vs w fun e w' => ∃ v G, e = .returned v ∧ Below w.heap.size w w' ∧ (∀ b cb, G b = some cb → n ≤ b) ∧
      RA w' ⟨F, G⟩ (List.replicate n .dead ++ (imp n r).2) (imp n r).1 v ∧ HS w' ⟨F, G⟩ (List.replicate n .dead ++ (imp n r).2) w.heap.size

def CallS (P : Program) : CallP := fun f args H Q =>
  ∀ (B : Nat) (c : Cx) (w : World) (vs : Array Value), HS w c H B → vs.size = args.length → (∀ (i : Nat) a v, args[i]? = some a → vs[i]? = some v → RA w c H a v) →
    Gets P f vs w fun e w' => ∃ v c' r H', e = .returned v ∧ RA w' c' H' r v ∧ HS w' c' H' B ∧ Ev w c H w' c' H' ∧ Below B w w' ∧ Q r H'

theorem CallS.mono {P : Program} {f : FuncId} {args : List AV} {H : AH} {Q Q' : AV → AH → Prop} (h : CallS P f args H Q) (hq : ∀ r H', Q r H' → Q' r H') : CallS P f args H Q' :=
  fun B c w vs a b d => (h B c w vs a b d).mono fun e w' ⟨v, c', r, H', h1, h2, h3, h4, h5, h6⟩ => ⟨v, c', r, H', h1, h2, h3, h4, h5, hq _ _ h6⟩

theorem get_dead {n : Nat} {Hb : List Blk} {b : Nat} {H : AH} (hn : H.length = n) (h : n ≤ b) : (List.replicate n Blk.dead ++ Hb)[b]? = (H ++ Hb)[b]? := by
  rw [List.getElem?_append_right (by simpa using h), List.getElem?_append_right (by omega)]
  simp [hn]

theorem dead_lt {n : Nat} {Hb : List Blk} {b : Nat} {blk : Blk} (h : b < n) (hb : (List.replicate n Blk.dead ++ Hb)[b]? = some blk) : blk = .dead := by
  rw [List.getElem?_append_left (by simpa using h)] at hb
  simp [h] at hb
  exact hb.symm

/-- New rows of a call, laid behind those of the walk. -/
theorem join {w w' : World} {c : Cx} {H Hb : AH} {B : Nat} {F : Nat → Prop} {G : Nat → Option Nat} (hs : HS w c H B) (hbel : Below w.heap.size w w') (hG : ∀ b cb, G b = some cb → H.length ≤ b)
    (hs' : HS w' ⟨F, G⟩ (List.replicate H.length .dead ++ Hb) w.heap.size) (harr : Hb.all Blk.isTs = true)
    (hrt : ∀ (b e s : Nat) (z : Bool) (g : Nat) (l : List T) (i : Nat) (x : T) (j : Nat) (y : T) (v : Value), Hb[b]? = some (Blk.arr e s z g (.ts l)) → l[i]? = some x → x.cells[j]? = some y →
      RT w' ((Cx.mk F G).M (List.replicate H.length .dead ++ Hb)) y v → RT w' ((Cx.mk c.F fun b => if b < H.length then c.G b else G b).M (H ++ Hb)) y v) :
    Ev w c H w' ⟨c.F, fun b => if b < H.length then c.G b else G b⟩ (H ++ Hb) ∧ HS w' ⟨c.F, fun b => if b < H.length then c.G b else G b⟩ (H ++ Hb) B := by
  have ev : Ev w c H w' ⟨c.F, fun b => if b < H.length then c.G b else G b⟩ (H ++ Hb) := by
    refine ⟨rfl, hbel.size, fun b blk hb => ⟨blk, by rw [List.getElem?_append_left (lt_of_getElem? hb)]; exact hb, ?_⟩, fun cb hm => ?_, fun cb hlt _ => hbel.block cb hlt,
      fun b bk hb _ hg => by simp only [if_pos (lt_of_getElem? hb)]; exact hg⟩
    · have hlt := lt_of_getElem? hb
      cases blk with
      | dead => trivial
      | box cs => exact ⟨rfl, fun cb hc => by simp only [if_pos hlt]; exact hc⟩
      | iter s p => exact ⟨rfl, fun cb hc => by simp only [if_pos hlt]; exact hc⟩
      | arr e s z g l =>
        refine ⟨rfl, rfl, rfl, Nat.le_refl _, Nat.le_refl _, fun _ => ⟨rfl, fun cb hc => ⟨by simp only [if_pos hlt]; exact hc, ?_⟩⟩⟩
        unfold rowSize
        rw [hbel.block cb (hs.base b cb hc).2]
    · rcases hm with hm | ⟨b, blk, hb, hl, hg⟩
      · exact .inl (.inl hm)
      · simp only at hg
        split at hg
        · rename_i hlt
          rw [List.getElem?_append_left hlt] at hb
          exact .inl (.inr ⟨b, blk, hb, hl, hg⟩)
        · exact .inr (hs'.base b cb hg).1
  have hB : B ≤ w.heap.size := hs.hB
  refine ⟨ev, hs.keep ev (fun b b' cb h h' => ?_) (fun b cb h => ?_) (fun b cb h => ?_) (fun b cb cs hb hg => ?_) (fun b cb e s z g l hb hg => ?_) (fun b cb s p hb hg => ?_)⟩
  · simp only at h h'
    split at h <;> split at h'
    · exact hs.inj b b' cb h h'
    · have := (hs.base b cb h).2; have := (hs'.base b' cb h').1; omega
    · have := (hs.base b' cb h').2; have := (hs'.base b cb h).1; omega
    · exact hs'.inj b b' cb h h'
  · simp only at h
    split at h
    · have := hs.base b cb h; exact ⟨this.1, by have := hbel.size; omega⟩
    · have := hs'.base b cb h; exact ⟨by omega, this.2⟩
  · simp only at h
    split at h
    · simp; omega
    · have := hs'.dom b cb h; simp at this ⊢; omega
  · simp only at hg
    split at hg
    · rename_i hlt
      rw [List.getElem?_append_left hlt] at hb
      exact .inl ⟨hb, hg, hbel.block cb (hs.base b cb hg).2⟩
    · rename_i hge
      rw [List.getElem?_append_right (by omega)] at hb
      rw [List.all_eq_true] at harr
      have := harr _ (List.mem_of_getElem? hb)
      simp [Blk.isTs] at this
  · simp only at hg
    split at hg
    · rename_i hlt
      rw [List.getElem?_append_left hlt] at hb
      exact .inl ⟨hb, hg, hbel.block cb (hs.base b cb hg).2⟩
    · rename_i hge
      have hb' := hb
      rw [List.getElem?_append_right (by omega)] at hb'
      rw [← get_dead (H := H) rfl (by omega)] at hb
      obtain ⟨arr, cap, h1, h2, h3, h4, h5⟩ := hs'.arr b cb e s z g l hb hg
      rw [List.all_eq_true] at harr
      have hts := harr _ (List.mem_of_getElem? hb')
      cases l with
      | vs l => simp [Blk.isTs] at hts
      | ts l =>
        refine .inr ⟨arr, cap, h1, h2, h3, h4, Rowed.ts.2 fun i x hi => ⟨(Rowed.ts.1 h5 i x hi).1, fun j y hj => ?_⟩⟩
        obtain ⟨v, k1, k2, k3, k4⟩ := (Rowed.ts.1 h5 i x hi).2 j y hj
        exact ⟨v, k1, k2, hrt _ e s z g l i x j y v hb' hi hj k3, k4⟩
  · simp only at hg
    split at hg
    · rename_i hlt
      rw [List.getElem?_append_left hlt] at hb
      exact .inl ⟨hb, hg, hbel.block cb (hs.base b cb hg).2⟩
    · rename_i hge
      rw [List.getElem?_append_right (by omega)] at hb
      rw [List.all_eq_true] at harr
      have := harr _ (List.mem_of_getElem? hb)
      simp [Blk.isTs] at this

theorem join_M {c : Cx} {H Hb : AH} {F : Nat → Prop} {G : Nat → Option Nat} {cb : Nat} (hF : ∀ cb, c.M H cb → F cb) (h : ¬ (Cx.mk F G).M (List.replicate H.length .dead ++ Hb) cb) :
    ¬ (Cx.mk c.F fun b => if b < H.length then c.G b else G b).M (H ++ Hb) cb := by
  rintro (hf | ⟨b, blk, hb, hl, hg⟩)
  · exact h (.inl (hF cb (.inl hf)))
  · simp only at hg
    split at hg
    · rename_i hlt
      rw [List.getElem?_append_left hlt] at hb
      exact h (.inl (hF cb (.inr ⟨b, blk, hb, hl, hg⟩)))
    · exact h (.inr ⟨b, blk, by rw [get_dead (H := H) rfl (by omega)]; exact hb, hl, hg⟩)

theorem M_lt {w c H B} (hs : HS w c H B) {cb : Nat} (h : c.M H cb) : cb < w.heap.size := by
  rcases h with hf | ⟨b, blk, _, _, hg⟩
  · have := hs.fb cb hf; have := hs.hB; omega
  · exact (hs.base b cb hg).2

/-- A call with plain data. -/
theorem CallS.pure {P : Program} {f : FuncId} {args : List AV} {ts : List T} {r : AV} {H : AH} {Q : AV → AH → Prop} (h : Runs P f ts r) (ha : toTs args = some ts) (k : Q (imp H.length r).1 (H ++ (imp H.length r).2)) :
    CallS P f args H Q := by
  intro B c w vs hs hl hr
  have hts := toTs_spec ha
  refine (h.2 H.length (c.M H) w vs (fun cb hcb => M_lt hs hcb) (by rw [hl, hts]; simp) (fun i t v hi hv => ?_)).mono fun e w' ⟨v, G, he, hbel, hG, hra, hs'⟩ => ?_
  · have := hr i (.t t) v (by rw [hts]; simp [hi]) hv
    cases this with | t _ _ h => exact h
  · obtain ⟨ev, hs2⟩ := join (Hb := (imp H.length r).2) hs hbel hG hs' (imp_arr _ _) (fun b e s z g l i x j y v hb hi hj hrt => hrt.mono fun cb _ hcb => ⟨rfl, join_M (fun _ h => h) hcb⟩)
    refine ⟨v, _, _, _, he, ?_, hs2, ev, ?_, k⟩
    · exact hra.shift (n := H.length) (fun cb hcb => join_M (fun _ h => h) hcb) (fun b hb => get_dead rfl hb) (fun b hb => by simp only [if_neg (Nat.not_lt.2 hb)]) (imp_ge h.1)
    · exact hbel.mono hs.hB

end Go.Proofs.YthpkehhghcpolaaDoor
