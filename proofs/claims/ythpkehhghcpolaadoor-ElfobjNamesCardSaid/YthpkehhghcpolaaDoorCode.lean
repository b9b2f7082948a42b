/-
  Regions, pieces of code, functions.
-/
import Derived.Test.YthpkehhghcpolaaDoorWalk
import Derived.Tactics
import Derived.Orders
namespace Go.Proofs.YthpkehhghcpolaaDoor
open Go.RowKit
set_option linter.unusedVariables false
set_option linter.unusedSimpArgs false

/-- Where a function's walk began. -/
structure Org where
  N : Nat
  B : Nat
  w0 : World
  c0 : Cx
  H0 : AH
  ds : List Deferred

/-- A state of the walk and a state of the model. -/
structure Sat (O : Org) (c : Cx) (s : St) (a : Act) (w : World) : Prop where
  env : ∀ t, RA w c s.H (lk s.env t) (a.tmps.getD t undef)
  hs : HS w c s.H O.B
  size : a.tmps.size = O.N
  defers : a.defers = O.ds
  ev : Ev O.w0 O.c0 O.H0 w c s.H
  below : Below O.B O.w0 w

theorem Sat.go {O c s a w c' H' w'} (h : Sat O c s a w) (ev : Ev w c s.H w' c' H') (hs : HS w' c' H' O.B) (hb : Below O.B w w') : Sat O c' ⟨s.env, H'⟩ a w' :=
  ⟨fun t => (h.env t).ev ev, hs, h.size, h.defers, h.ev.trans ev, h.below.trans hb⟩

theorem lk_cons (d : Nat) (v : AV) (env : List (Nat × AV)) (t : Nat) : lk ((d, v) :: env) t = if d = t then v else lk env t := by
  simp only [lk]
  by_cases h : d = t
  · subst h; simp
  · have : Nat.beq d t = false := by
      cases hb : Nat.beq d t with
      | false => rfl
      | true => exact (h (Nat.eq_of_beq_eq_true hb)).elim
    rw [this, if_neg h]

/-- A slot is told anew. -/
theorem Sat.tell {O c s a w} (h : Sat O c s a w) {d : Nat} {v : AV} (hv : RA w c s.H v (a.tmps.getD d undef)) : Sat O c ⟨(d, v) :: s.env, s.H⟩ a w := by
  refine ⟨fun t => ?_, h.hs, h.size, h.defers, h.ev, h.below⟩
  rw [lk_cons]
  split
  · rename_i e; rw [← e]; exact hv
  · exact h.env t

theorem Sat.put {O c env H a w} (h : Sat O c ⟨env, H⟩ a w) (d : Option Tmp) (hd : ∀ k, d = some k → k < O.N) {v : AV} {val : Value} (hv : RA w c H v val) (s0 : St) (hs0 : s0.env = env) : Sat O c (s0.put d v H) (a.put d val) w := by
  subst hs0
  cases d with
  | none => exact h
  | some k =>
    have hk := hd k rfl
    refine ⟨fun t => ?_, h.hs, by simp [Act.put, h.size], h.defers, h.ev, h.below⟩
    simp only [St.put, Act.put]
    rw [lk_cons]
    have hks : k < a.tmps.size := by rw [h.size]; exact hk
    by_cases e : k = t
    · subst e
      rw [if_pos rfl]
      simp [Array.getD_eq_getD_getElem?, Array.getElem?_setIfInBounds_self_of_lt hks]
      exact hv
    · rw [if_neg e]
      simp only [Array.getD_eq_getD_getElem?, Array.getElem?_setIfInBounds_ne e]
      have := h.env t
      rwa [Array.getD_eq_getD_getElem?] at this

def dstOK (N : Nat) (o : Oper) : Bool :=
  match o.dst with
  | some d => Nat.blt d N
  | none => true

theorem dstOK_spec {N : Nat} {o : Oper} (h : dstOK N o = true) : ∀ k, o.dst = some k → k < N := by
  intro k hk
  simp only [dstOK, hk] at h
  simpa [Nat.blt_eq] using h

section
variable {P : Program} {tab : Tab}

/-- What a piece must do, seen from its end. -/
def Good (O : Org) (K : St → Prop) (Q : Act → World → Prop) : Prop := ∀ s c a w, Sat O c s a w → K s → Q a w

theorem slot_get {a : Act} {d : Nat} {b : Bool} (h : a.tmps.getD d undef = .bool b) : a.tmps[d]? = some (.bool b) := by
  rw [Array.getD_eq_getD_getElem?] at h
  cases hd : a.tmps[d]? with
  | none => simp [hd, undef] at h
  | some v => simpa [hd] using h

/-- One operation as its guard says, in a region that runs in order. -/
theorem xguard_ok (hT : TabOK P tab) {O : Org} {ops : Array Oper} {o : Oper} {s : St} {K : St → Prop} (h : xguard tab (CallS P) ops o s K) (hd : dstOK O.N o = true) {c : Cx} {a : Act} {w : World} (hs : Sat O c s a w)
    {next : Act → World → Prop} {Q : Exit → Act → World → Prop} (hK : Good O K next) :
    if Region.wanted o (yielded ops a.tmps) then o.wp P a w next Q else next (a.put o.dst undef) w := by
  have hd := dstOK_spec hd
  have run : ∀ {s : St}, Sat O c s a w → xop tab (CallS P) o s.env s.H (fun v H => K (s.put o.dst v H)) → o.wp P a w next Q := fun {s} hs h =>
    xop_ok hT h hs.hs hs.env (fun v val w' c' H' h1 h2 h3 h4 h5 => hK _ c' _ _ ((hs.go h3 h2 h4).put o.dst hd h1 s rfl) h5)
  have skip : ∀ {s : St}, Sat O c s a w → K (s.put o.dst (.tup []) s.H) → next (a.put o.dst undef) w := fun {s} hs h =>
    hK _ c _ _ (Sat.put (env := s.env) (H := s.H) hs o.dst hd (v := .tup []) (.tup [] #[] rfl (by simp)) s rfl) h
  obtain ⟨env, H⟩ := s
  simp only [xguard, stp_eq] at h
  split at h
  · rename_i hg
    rw [if_pos (by simp [Region.wanted, hg])]
    exact run hs h
  · rename_i j want hg
    rw [opt_iff] at h
    obtain ⟨d, hdj, h⟩ := h
    have hdj : (ops[j]?).bind (·.dst) = some d := hdj
    have hra := hs.env d
    split at h
    · rename_i b hl
      rw [hl] at hra
      have hslot := slot_get hra.bool
      have hyb : yielded ops a.tmps j = some b := by simp only [yielded, hdj, Option.bind_some, hslot]
      have tell : ∀ b', b = b' → Sat O c ⟨(d, .t (.bool b')) :: env, H⟩ a w := fun b' e => by
        subst e; exact hs.tell hra
      split at h
      · rw [br_iff] at h
        rcases h with ⟨rfl, h⟩ | ⟨rfl, h⟩
        · rw [if_pos (by simp [Region.wanted, hg, hyb])]
          exact run (tell true rfl) h
        · rw [if_neg (by simp [Region.wanted, hg, hyb])]
          exact skip (tell false rfl) h
      · rw [br_iff] at h
        rcases h with ⟨rfl, h⟩ | ⟨rfl, h⟩
        · rw [if_neg (by simp [Region.wanted, hg, hyb])]
          exact skip (tell true rfl) h
        · rw [if_pos (by simp [Region.wanted, hg, hyb])]
          exact run (tell false rfl) h
    · rename_i hl
      rw [hl] at hra
      have hu : a.tmps.getD d undef = .tuple #[] := by
        generalize a.tmps.getD d undef = q at hra
        cases hra with | tup _ vs hl' _ =>
        have : vs = #[] := Array.eq_empty_of_size_eq_zero (by simpa using hl'.symm)
        rw [this]
      have hyb : yielded ops a.tmps j = none := by
        rw [Array.getD_eq_getD_getElem?] at hu
        simp only [yielded, hdj, Option.bind_some]
        cases hq : a.tmps[d]? with
        | none => rfl
        | some v => simp [hq] at hu; subst hu; rfl
      rw [if_neg (by simp [Region.wanted, hg, hyb])]
      exact skip hs h
    · exact h.elim

theorem xops_ok (hT : TabOK P tab) {O : Org} {ops : Array Oper} {Q : Exit → Act → World → Prop} : ∀ {l : List Oper} {s : St} {K : St → Prop}, xops tab (CallS P) ops l s K → l.all (dstOK O.N) = true → ∀ {c : Cx} {a : Act} {w : World}, Sat O c s a w →
    Good O K (Q .normal) → wpList P ops Q l a w
  | [], s, K, h, hd, c, a, w, hs, hK => hK s c a w hs h
  | o :: r, s, K, h, hd, c, a, w, hs, hK => by
    simp only [List.all_cons, Bool.and_eq_true] at hd
    have := xguard_ok (Q := Q) (next := wpList P ops Q r) hT h hd.1 hs (fun s' c' a' w' h1 h4 => xops_ok hT h4 hd.2 h1 hK)
    unfold wpList
    split
    · rename_i hw; rw [if_pos hw] at this; exact .inl this
    · rename_i hw; rw [if_neg hw] at this; exact this

/-! ### Code -/

/-- A state says less than another ('k0': so many blocks were there when the function began). -/
def Weak (k0 : Nat) (s s' : St) : Prop := ∀ O c a w, O.H0.length = k0 → Sat O c s a w → ∃ c', Sat O c' s' a w

/-- A loop, by what holds at each round's head. -/
def LoopN (k0 : Nat) (body : (Ex → St → Prop) → St → Prop) (Q : Ex → St → Prop) (s : St) : Prop :=
  ∃ (I : Type) (S : I → St) (μ : I → Nat) (i : I), Weak k0 s (S i) ∧ ∀ i, body (fun e s' => match e with | .normal => ∃ j, Weak k0 s' (S j) ∧ μ j < μ i | e => Q e s') (S i)

/-- A loop, some rounds of it one by one, and what comes then. -/
def LoopR (k0 : Nat) : Nat → ((Ex → St → Prop) → St → Prop) → (Ex → St → Prop) → St → Prop
  | 0, body, Q, s => LoopN k0 body Q s
  | n + 1, body, Q, s => body (fun e s' => match e with | .normal => LoopR k0 n body Q s' | e => Q e s') s

def LoopU (k0 : Nat) (body : (Ex → St → Prop) → St → Prop) (Q : Ex → St → Prop) (s : St) : Prop := ∃ n, LoopR k0 n body Q s

theorem loop_un {k0 : Nat} {body : (Ex → St → Prop) → St → Prop} {Q : Ex → St → Prop} {s : St} (n : Nat) (h : LoopR k0 n body Q s) : LoopU k0 body Q s := ⟨n, h⟩

/-- What a loop's rounds come to, from the head of a round on. -/
def LoopWP (P : Program) (c : Code) (Q : Exit → Act → World → Prop) (a : Act) (w : World) : Prop :=
  ∀ (b : Frame) (k : List Item) (cs : List Frame), ∃ e a' w', Q e a' w' ∧ Arrives P (lone (b.at a (.code c :: .inLoop c :: k)) cs w) b k cs e a' w'

theorem LoopWP.wp {P : Program} {c : Code} {Q : Exit → Act → World → Prop} {a : Act} {w : World} (h : LoopWP P c Q a w) : (Code.loop c).wp P Q a w := fun b k cs => by
  obtain ⟨e, a', w', hq, harr⟩ := h b k cs
  exact ⟨e, a', w', hq, .of_steps (.one step_loop) harr⟩

theorem LoopWP.round {P : Program} {c : Code} {Q : Exit → Act → World → Prop} {a : Act} {w : World} (h : c.wp P (Exit.then (LoopWP P c Q) Q) a w) : LoopWP P c Q a w := fun b k cs => by
  obtain ⟨e, a₁, w₁, hq, harr⟩ := h b (.inLoop c :: k) cs
  cases e with
  | normal =>
    obtain ⟨e₂, a₂, w₂, hq₂, harr₂⟩ := hq b k cs
    exact ⟨e₂, a₂, w₂, hq₂, .of_steps (Steps.trans harr (.one step_inLoop)) harr₂⟩
  | exit id => exact ⟨_, a₁, w₁, hq, .pass (x := .inLoop c) rfl (fun _ _ => .inl (by simp)) harr⟩
  | goto l => exact ⟨_, a₁, w₁, hq, .pass (x := .inLoop c) rfl (fun _ _ => .inl (by simp)) harr⟩
  | ret => exact ⟨_, a₁, w₁, hq, .pass (x := .inLoop c) rfl (fun _ _ => .inl (by simp)) harr⟩
  | panic ch => exact ⟨_, a₁, w₁, hq, .pass (x := .inLoop c) rfl (fun _ _ => .inl (by simp)) harr⟩
  | outgrown => exact ⟨_, a₁, w₁, hq, .pass (x := .inLoop c) rfl (fun _ _ => .inl (by simp)) harr⟩

theorem LoopWP.inv {P : Program} {c : Code} {Q : Exit → Act → World → Prop} (I : Act → World → Prop) (μ : Act → World → Nat)
    (round : ∀ a w, I a w → c.wp P (Exit.then (fun a' w' => I a' w' ∧ μ a' w' < μ a w) Q) a w) : ∀ (n : Nat) (a : Act) (w : World), μ a w = n → I a w → LoopWP P c Q a w := by
  intro n
  induction n using Nat.strongRecOn with
  | _ n ih =>
    intro a w hn hI
    refine LoopWP.round (wp_mono (round a w hI) fun e a' w' hq => ?_)
    cases e with
    | normal => exact ih (μ a' w') (hn ▸ hq.2) a' w' rfl hq.1
    | _ => exact hq

/-- A region that draws its order: see DrawN. -/
abbrev RegP := Array Oper → St → (St → Prop) → Prop

def xcode (tab : Tab) (call : CallP) (reg : RegP) (k0 : Nat) : Code → (Ex → St → Prop) → St → Prop
  | .skip, Q, s => Q .normal s
  | .seq x y, Q, s => xcode tab call reg k0 x (fun e s' => match e with | .normal => xcode tab call reg k0 y Q s' | e => Q e s') s
  | .cond c x y, Q, s =>
    match opd s.env c with
    | .t (.bool t) => Br t (xcode tab call reg k0 x Q s) (xcode tab call reg k0 y Q s)
    | _ => False
  | .block id x, Q, s => xcode tab call reg k0 x (fun e s' => match e with | .exit i => (match Nat.beq i id with | true => Q .normal s' | false => Q (.exit i) s') | e => Q e s') s
  | .loop x, Q, s => LoopU k0 (xcode tab call reg k0 x) Q s
  | .exit id, Q, s => Q (.exit id) s
  | .ret, Q, s => Q .ret s
  | .region _ ops draw, Q, s =>
    match draw with
    | false => xops tab call ops ops.toList s fun s' => Q .normal s'
    | true => reg ops s fun s' => Q .normal s'
  | _, _, _ => False

/-- All operations write to slots that are there. -/
def slotsOK (N : Nat) : Code → Bool
  | .seq x y => slotsOK N x && slotsOK N y
  | .cond _ x y => slotsOK N x && slotsOK N y
  | .block _ x => slotsOK N x
  | .loop x => slotsOK N x
  | .region _ ops _ => ops.toList.all (dstOK N)
  | _ => true

def Ex.out : Ex → Exit
  | .normal => .normal
  | .exit id => .exit id
  | .ret => .ret

/-- What the code's end must give. -/
def Ends (O : Org) (Q : Ex → St → Prop) (R : Exit → Act → World → Prop) : Prop := ∀ e s c a w, Sat O c s a w → Q e s → R e.out a w

/-- What a region that draws its order must do. -/
def RegOK (P : Program) (tab : Tab) (reg : RegP) : Prop :=
  ∀ {O : Org} {id : Nat} {ops : Array Oper} {s : St} {K : St → Prop}, reg ops s K → ops.toList.all (dstOK O.N) = true → ∀ {c : Cx} {a : Act} {w : World} {R : Exit → Act → World → Prop}, Sat O c s a w → Good O K (R .normal) →
    (Code.region id ops true).wp P R a w

theorem xcode_ok (hT : TabOK P tab) {reg : RegP} (hreg : RegOK P tab reg) {O : Org} : ∀ {x : Code} {Q : Ex → St → Prop} {s : St}, xcode tab (CallS P) reg O.H0.length x Q s → slotsOK O.N x = true → ∀ {c : Cx} {a : Act} {w : World} {R : Exit → Act → World → Prop},
    Sat O c s a w → Ends O Q R → x.wp P R a w := by
  intro x
  induction x with
  | skip => intro Q s h hd c a w R hs hR; exact wp_skip (hR .normal s c a w hs h)
  | seq x y ihx ihy =>
    intro Q s h hd c a w R hs hR
    simp only [slotsOK, Bool.and_eq_true] at hd
    refine wp_seq (ihx h hd.1 hs fun e s' c' a' w' hs' hq => ?_)
    cases e with
    | normal => exact ihy hq hd.2 hs' hR
    | exit id => exact hR (.exit id) s' c' a' w' hs' hq
    | ret => exact hR .ret s' c' a' w' hs' hq
  | cond o x y ihx ihy =>
    intro Q s h hd c a w R hs hR
    simp only [slotsOK, Bool.and_eq_true] at hd
    simp only [xcode] at h
    have hra := opd_ok hs.env o
    split at h
    · rename_i t ht
      rw [ht] at hra
      refine wp_cond hra.bool ?_
      rw [br_iff] at h
      rcases h with ⟨rfl, h⟩ | ⟨rfl, h⟩
      · exact ihx h hd.1 hs hR
      · exact ihy h hd.2 hs hR
    · exact h.elim
  | block id x ih =>
    intro Q s h hd c a w R hs hR
    refine wp_block (ih h hd hs fun e s' c' a' w' hs' hq => ?_)
    cases e with
    | normal => exact hR .normal s' c' a' w' hs' hq
    | ret => exact hR .ret s' c' a' w' hs' hq
    | exit i =>
      simp only at hq
      simp only [Ex.out, Exit.inBlock]
      split at hq
      · rename_i hb
        rw [if_pos (Nat.eq_of_beq_eq_true hb)]
        exact hR .normal s' c' a' w' hs' hq
      · rename_i hb
        rw [if_neg (fun e => by subst e; simp at hb)]
        exact hR (.exit i) s' c' a' w' hs' hq
  | loop x ih =>
    intro Q s h hd c a w R hs hR
    obtain ⟨n, h⟩ := h
    refine LoopWP.wp ?_
    induction n generalizing s c a w with
    | succ n ihn =>
      refine LoopWP.round (ih h hd hs fun e s' c' a' w' hs' hq => ?_)
      cases e with
      | normal => exact ihn hs' hq
      | exit id => exact hR (.exit id) s' c' a' w' hs' hq
      | ret => exact hR .ret s' c' a' w' hs' hq
    | zero =>
    obtain ⟨I, S, μ, i0, h0, hround⟩ := h
    have hmin : ∀ a w, (∃ i c, Sat O c (S i) a w) → ∃ i c, Sat O c (S i) a w ∧ ∀ j c', Sat O c' (S j) a w → μ i ≤ μ j := by
      intro a w ⟨i, c, hi⟩
      have key : ∀ n i c, μ i = n → Sat O c (S i) a w → ∃ i c, Sat O c (S i) a w ∧ ∀ j c', Sat O c' (S j) a w → μ i ≤ μ j := by
        intro n
        induction n using Nat.strongRecOn with
        | _ n ihn =>
          intro i c hin hi
          by_cases hex : ∃ j c', Sat O c' (S j) a w ∧ μ j < μ i
          · obtain ⟨j, c', hj, hlt⟩ := hex
            exact ihn (μ j) (by omega) j c' rfl hj
          · exact ⟨i, c, hi, fun j c' hj => Nat.le_of_not_lt fun hlt => hex ⟨j, c', hj, hlt⟩⟩
      exact key _ i c rfl hi
    let μ' : Act → World → Nat := fun a w => open Classical in if hh : ∃ i c, Sat O c (S i) a w then μ (Classical.choose (hmin a w hh)) else 0
    have hμ' : ∀ a w j c', Sat O c' (S j) a w → μ' a w ≤ μ j := fun a w j c' hj => by
      have hh : ∃ i c, Sat O c (S i) a w := ⟨j, c', hj⟩
      simp only [μ', dif_pos hh]
      obtain ⟨c2, _, hle⟩ := Classical.choose_spec (hmin a w hh)
      exact hle j c' hj
    obtain ⟨c1, hs1⟩ := h0 O c a w rfl hs
    refine LoopWP.inv (fun a w => ∃ i c, Sat O c (S i) a w) μ' (fun a w hh => ?_) _ a w rfl ⟨i0, c1, hs1⟩
    obtain ⟨c2, hs2, _⟩ := Classical.choose_spec (hmin a w hh)
    have hval : μ' a w = μ (Classical.choose (hmin a w hh)) := by simp only [μ', dif_pos hh]
    refine ih (hround (Classical.choose (hmin a w hh))) hd hs2 fun e s' c' a' w' hs' hq => ?_
    cases e with
    | normal =>
      obtain ⟨j, hw, hlt⟩ := hq
      obtain ⟨c3, hs3⟩ := hw O c' a' w' rfl hs'
      exact ⟨⟨j, c3, hs3⟩, by have := hμ' a' w' j c3 hs3; omega⟩
    | exit id => exact hR (.exit id) s' c' a' w' hs' hq
    | ret => exact hR .ret s' c' a' w' hs' hq
  | exit id => intro Q s h hd c a w R hs hR; exact wp_exit (hR (.exit id) s c a w hs h)
  | ret => intro Q s h hd c a w R hs hR; exact wp_ret (hR .ret s c a w hs h)
  | region id ops draw =>
    intro Q s h hd c a w R hs hR
    cases draw with
    | false => exact wp_region_list (xops_ok hT h hd hs fun s' c' a' w' hs' hq => hR .normal s' c' a' w' hs' hq)
    | true => exact hreg h hd hs fun s' c' a' w' hs' hq => hR .normal s' c' a' w' hs' hq
  | _ => intro Q s h; exact h.elim

/-! ### Functions -/

/-- What a function hands back. -/
def xres (tab : Tab) (s : St) : List ResultVar → (List AV → Prop) → Prop
  | [], K => K []
  | .tmp t :: r, K => xres tab s r fun l => K (lk s.env t :: l)
  | .cell a ty :: r, K => xload tab ty s.H (lk s.env a) fun v => xres tab s r fun l => K (v :: l)

def tupOf : List AV → AV
  | [v] => v
  | l => .tup l

def args0 : Nat → List AV → List (Nat × AV)
  | _, [] => []
  | n, a :: r => (n, a) :: args0 (n + 1) r

/-- A function's body, called with such arguments. -/
def xfn (tab : Tab) (call : CallP) (reg : RegP) (k0 : Nat) (fn : Func) (x : Code) (args : List AV) (H : AH) (Q : AV → AH → Prop) : Prop :=
  Ck (Nat.ble args.length fn.ntmps && slotsOK fn.ntmps x)
    (xcode tab call reg k0 x (fun e s => match e with | .exit _ => False | _ => xres tab s fn.results.toList fun l => Q (tupOf l) s.H) ⟨args0 0 args, H⟩)

theorem args0_lk : ∀ (args : List AV) (n t : Nat), lk (args0 n args) t = if n ≤ t then args.getD (t - n) .junk else .junk
  | [], n, t => by simp [args0, lk]
  | a :: r, n, t => by
    simp only [args0]
    rw [lk_cons, args0_lk r (n + 1) t]
    by_cases h : n = t
    · subst h; simp
    · by_cases h2 : n + 1 ≤ t
      · rw [if_neg h, if_pos h2, if_pos (by omega), show t - n = (t - (n + 1)) + 1 by omega]; rfl
      · rw [if_neg h, if_neg h2, if_neg (by omega)]

def resOne (tmps : Array Value) : ResultVar → Sem Value
  | .tmp t => pure (tmps.getD t undef)
  | .cell a t => do loadVar t (← asAddr (tmps.getD a undef))

theorem results_eq (fn : Func) (tmps : Array Value) : results fn tmps = (do
    let vs ← fn.results.mapM (resOne tmps)
    pure (if h : vs.size = 1 then vs[0] else .tuple vs)) := by
  unfold results
  congr

theorem xres_ok (hT : TabOK P tab) {O : Org} {c : Cx} {s : St} {a : Act} {w : World} (hs : Sat O c s a w) : ∀ {l : List ResultVar} {K : List AV → Prop}, xres tab s l K →
    ∃ vs : List AV, ∃ us : List Value, (l.mapM (resOne a.tmps)).run P w = .ok us w ∧ vs.length = us.length ∧
      (∀ (i : Nat) x v, vs[i]? = some x → us[i]? = some v → RA w c s.H x v) ∧ K vs
  | [], K, h => ⟨[], [], by simp, rfl, by simp, h⟩
  | .tmp t :: r, K, h => by
    obtain ⟨vs, us, h1, h2, h3, h4⟩ := xres_ok hT hs (l := r) h
    refine ⟨_, a.tmps.getD t undef :: us, ?_, by simp [h2], fun i x v hi hv => ?_, h4⟩
    · simp only [List.mapM_cons, resOne, Sem.run_bind, Sem.run_pure, Result.andThen_ok, h1]
    · cases i with
      | zero => simp only [List.getElem?_cons_zero, Option.some.injEq] at hi hv; subst hi hv; exact hs.env t
      | succ i => simp only [List.getElem?_cons_succ] at hi hv; exact h3 i x v hi hv
  | .cell p ty :: r, K, h => by
    simp only [xres] at h
    obtain ⟨y, val, r1, r2, k⟩ := xload_ok (P := P) hT hs.hs h (hs.env p)
    obtain ⟨vs, us, h1, h2, h3, h4⟩ := xres_ok hT hs (l := r) k
    refine ⟨_, val :: us, ?_, by simp [h2], fun i x v hi hv => ?_, h4⟩
    · have ha : ∃ ad, a.tmps.getD p undef = .pointer (some ad) := by
        simp only [Instr.loadAt, Sem.run_bind] at r1
        generalize a.tmps.getD p undef = q at r1
        cases q with
        | pointer x => cases x with
          | none => simp [Instr.sureAddr] at r1
          | some ad => exact ⟨ad, rfl⟩
        | _ => simp [Instr.sureAddr] at r1
      obtain ⟨ad, had⟩ := ha
      rw [had] at r1
      simp only [Instr.loadAt, Instr.sureAddr, pure_bind] at r1
      simp only [List.mapM_cons, resOne, Sem.run_bind, had, asAddr, Sem.run_pure, Result.andThen_ok, r1, h1]
    · cases i with
      | zero => simp only [List.getElem?_cons_zero, Option.some.injEq] at hi hv; subst hi hv; exact r2
      | succ i => simp only [List.getElem?_cons_succ] at hi hv; exact h3 i x v hi hv

theorem results_ok (hT : TabOK P tab) {O : Org} {c : Cx} {s : St} {a : Act} {w : World} (hs : Sat O c s a w) {fn : Func} {K : List AV → Prop} (h : xres tab s fn.results.toList K) :
    ∃ vs val, (results fn a.tmps).run P w = .ok val w ∧ RA w c s.H (tupOf vs) val ∧ K vs := by
  obtain ⟨vs, us, h1, h2, h3, h4⟩ := xres_ok hT hs h
  refine ⟨vs, if h : us.length = 1 then us[0] else .tuple us.toArray, ?_, ?_, h4⟩
  · rw [results_eq, Array.mapM_eq_mapM_toList]
    simp only [Sem.run_bind, Sem.run_map, h1, Result.andThen_ok, Sem.run_pure, List.size_toArray, List.getElem_toArray]
  · match vs, us, h2, h3 with
    | [x], [u], _, h3 => exact h3 0 x u rfl rfl
    | [], [], _, h3 => exact .tup [] #[] rfl (by simp)
    | x :: y :: r, u :: v :: q, h2, h3 =>
      have : ¬ (u :: v :: q).length = 1 := by simp
      rw [dif_neg this]
      exact .tup _ _ (by simpa using h2) (fun i x v hi hv => h3 i x v hi (by simpa using hv))

/-- A function whose body does so, called in the midst of a walk. -/
theorem CallS.of_fn (hT : TabOK P tab) {reg : RegP} (hreg : RegOK P tab reg) {f : FuncId} {fn : Func} {x : Code} (hf : P.funcs[f]? = some fn) (hb : fn.body = some x) (hn : (fn.name == "runtime.NumGoroutine") = false)
    {args : List AV} {H : AH} {Q : AV → AH → Prop} (h : xfn tab (CallS P) reg H.length fn x args H Q) : CallS P f args H Q := by
  unfold xfn at h
  rw [ck_iff] at h
  obtain ⟨hc, h⟩ := h
  simp only [Bool.and_eq_true] at hc
  have hle := Nat.le_of_ble_eq_true hc.1
  refine fun B c w vs hs hl hr => .inl ⟨⟨fn, hf, by rw [hb]; rfl, hn⟩, calls_of_wp hf hb ?_⟩
  let O : Org := ⟨fn.ntmps, B, w, c, H, []⟩
  have hs0 : Sat O c ⟨args0 0 args, H⟩ { tmps := vs ++ Array.replicate (fn.ntmps - vs.size) undef, defers := [] } w := by
    refine ⟨fun t => ?_, hs, by simp [O]; omega, rfl, Ev.refl _ _ _, Below.refl _ _⟩
    rw [args0_lk, if_pos (Nat.zero_le _), Nat.sub_zero]
    simp only [Array.getD_eq_getD_getElem?, List.getD_eq_getElem?_getD]
    by_cases ht : t < args.length
    · rw [Array.getElem?_append_left (by omega)]
      obtain ⟨v, hv⟩ := arr_get (a := vs) (i := t) (by omega)
      have ha : args[t]? = some args[t] := List.getElem?_eq_getElem ht
      rw [hv, ha]
      exact hr t _ v ha hv
    · rw [List.getElem?_eq_none (by omega)]
      exact .junk _
  refine xcode_ok hT hreg (O := O) h hc.2 hs0 fun e s' c' a' w' hs' hq => ?_
  cases e with
  | exit id => exact hq.elim
  | normal =>
    obtain ⟨l, val, r1, r2, k⟩ := results_ok hT hs' hq
    exact ⟨hs'.defers, val, r1, val, c', _, s'.H, rfl, r2, hs'.hs, hs'.ev, hs'.below, k⟩
  | ret =>
    obtain ⟨l, val, r1, r2, k⟩ := results_ok hT hs' hq
    exact ⟨hs'.defers, val, r1, val, c', _, s'.H, rfl, r2, hs'.hs, hs'.ev, hs'.below, k⟩

end
end Go.Proofs.YthpkehhghcpolaaDoor
