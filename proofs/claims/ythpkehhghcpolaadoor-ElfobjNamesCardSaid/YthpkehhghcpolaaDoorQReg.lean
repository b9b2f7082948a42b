/-
  Regions of the fast engine: each operation's result is laid on a stack; mere moves are no operations.
-/
import Derived.Test.YthpkehhghcpolaaDoorQOps
namespace Go.Proofs.YthpkehhghcpolaaDoor
open Go.RowKit
set_option linter.unusedVariables false
set_option linter.unusedSimpArgs false

/-- Where a slot's value is: at a place (counted from the stack's ground); so only if a guard holds. -/
inductive SV where
  | here (x : Operand)
  | gd (g : Operand) (w : Bool) (x : Operand)

def sameRef : Operand → Operand → Bool
  | .tmp a, .tmp b => Nat.beq a b
  | .global a, .global b => Nat.beq a b
  | _, _ => false

theorem sameRef_eq {x y : Operand} (h : sameRef x y = true) : x = y := by
  unfold sameRef at h
  split at h
  · rw [Nat.eq_of_beq_eq_true h]
  · rw [Nat.eq_of_beq_eq_true h]
  · cases h

def look : List (Nat × SV) → Nat → SV
  | [], t => .here (.tmp t)
  | (a, v) :: r, t => match Nat.beq a t with | true => v | false => look r t

theorem look_cons (a : Nat) (v : SV) (r : List (Nat × SV)) (t : Nat) : look ((a, v) :: r) t = if a = t then v else look r t := by
  simp only [look, natbeq]
  by_cases h : a = t <;> simp [h]

abbrev Gd := Option (Operand × Bool)

def inG : Gd → Operand → Bool → Bool
  | some (g', w'), g, w => sameRef g' g && (w' == w)
  | none, _, _ => false

def useSlot (σ : List (Nat × SV)) (G : Gd) (t : Nat) : Option Operand :=
  match look σ t with
  | .here x => some x
  | .gd g w x => match inG G g w with | true => some x | false => none

def rel (n : Nat) : Operand → Operand
  | .global p => .global (n - 1 - p)
  | x => x

def mapS (σ : List (Nat × SV)) (G : Gd) (n : Nat) : Operand → Operand
  | .tmp t => (match useSlot σ G t with | some (.global p) => .global (n - 1 - p) | some (.tmp u) => .tmp u | _ => .tmp t)
  | x => x

theorem mapS_const (σ : List (Nat × SV)) (G : Gd) (n : Nat) (x : Operand) : isConst (mapS σ G n x) = isConst x := by
  cases x <;> first | rfl | skip
  simp only [mapS]
  split <;> rfl

/-- An operation of a region, and whether it is done. -/
structure QI where
  guard : Gd
  o : QO

def matsL (G : Gd) : List Operand → List (Nat × SV) → Nat → List QI × List (Nat × SV) × Nat
  | [], σ, n => ([], σ, n)
  | .tmp t :: r, σ, n =>
    (match look σ t with
    | .gd g w x =>
      (match inG G g w with
      | true => matsL G r σ n
      | false => (match matsL G r ((t, .here (.global n)) :: σ) (n + 1) with | (is, σ', n') => (⟨some (rel n g, w), .mv (rel n x)⟩ :: is, σ', n')))
    | .here _ => matsL G r σ n)
  | _ :: r, σ, n => matsL G r σ n

def refOK : Operand → Bool
  | .tmp _ => true
  | .global _ => true
  | _ => false

def okOpnd (σ : List (Nat × SV)) (G : Gd) : Operand → Bool
  | .tmp t => (match useSlot σ G t with | some x => refOK x | none => false)
  | .const _ => true
  | .func _ => true
  | .global _ => false

def sliceTy (tab : Tab) (t : TypeId) : Bool :=
  match tab t with
  | some y => (match y.d with | .slice _ => true | _ => false)
  | none => false

def aliasOf (tab : Tab) (o : Oper) : Option Nat :=
  match o.op with
  | .move (.tmp t) => some t
  | .assign (.tmp t) => (match sliceTy tab o.type with | true => none | false => some t)
  | _ => none

def gdOf (ops : Array Oper) (σ : List (Nat × SV)) (o : Oper) : Option Gd :=
  match o.guard with
  | none => some none
  | some (j, w) =>
    match guardSlot ops j with
    | some d => (match look σ d with | .here x => some (some (x, w)) | _ => none)
    | none => none

def gdSlot (ops : Array Oper) (o : Oper) : List Operand :=
  match o.guard with
  | none => []
  | some (j, _) => match guardSlot ops j with | some d => [.tmp d] | none => []

def dstTo (d : Option Tmp) (x : SV) (σ : List (Nat × SV)) : List (Nat × SV) :=
  match d with
  | some d => (d, x) :: σ
  | none => σ

def compReal (G : Gd) (o : Oper) (is0 : List QI) (σ0 : List (Nat × SV)) (n0 : Nat) : Option (List QI × List (Nat × SV) × Nat) :=
  match matsL G (opnds o.op) σ0 n0 with
  | (is1, σ1, n1) =>
    match (opnds o.op).all (okOpnd σ1 G) with
    | false => none
    | true => some (is0 ++ (is1 ++ [⟨G.map fun p => (rel n1 p.1, p.2), QO.of o.type (mapOp (mapS σ1 G n1) o.op)⟩]), dstTo o.dst (.here (.global n1)) σ1, n1 + 1)

def compO (tab : Tab) (ops : Array Oper) (o : Oper) (σ : List (Nat × SV)) (n : Nat) : Option (List QI × List (Nat × SV) × Nat) :=
  match matsL none (gdSlot ops o) σ n with
  | (is0, σ0, n0) =>
    match gdOf ops σ0 o with
    | none => none
    | some G =>
      match aliasOf tab o, o.dst with
      | some t, some d =>
        (match G with
        | none => some (is0, (d, look σ0 t) :: σ0, n0)
        | some g => compReal (some g) o is0 σ0 n0)
      | _, _ => compReal G o is0 σ0 n0

def compL (tab : Tab) (ops : Array Oper) : List Oper → List (Nat × SV) → Nat → Option (List QI × List (Nat × SV) × Nat)
  | [], σ, n => some ([], σ, n)
  | o :: r, σ, n =>
    match compO tab ops o σ n with
    | none => none
    | some (is, σ1, n1) =>
      match compL tab ops r σ1 n1 with
      | none => none
      | some (js, σ2, n2) => some (is ++ js, σ2, n2)

/-- The slots to be written at the end: those that aren't dead. -/
def wk (D : Nat) : Nat → List (Nat × SV) → List Nat
  | _, [] => []
  | m, (t, _) :: r => match D.testBit t || m.testBit t with | true => wk D m r | false => t :: wk D (Nat.lor m (Nat.shiftLeft 1 t)) r

def compR (tab : Tab) (D : Nat) (ops : Array Oper) : Option (List QI × List (Nat × Operand)) :=
  match compL tab ops ops.toList [] 0 with
  | none => none
  | some (is, σ, n) =>
    match matsL none ((wk D 0 σ).map .tmp) σ n with
    | (js, σ', n') =>
      match (wk D 0 σ).all (fun t => okOpnd σ' none (.tmp t)) && σ'.all (fun p => D.testBit p.1 || (wk D 0 σ).contains p.1) with
      | false => none
      | true => some (is ++ js, (wk D 0 σ).map fun t => (t, mapS σ' none n' (.tmp t)))

section
variable {R : Type}

noncomputable def qsel (c w : Bool) (a b : Option R) : Option R :=
  @Bool.rec (fun _ => Bool → Option R → Option R → Option R) (fun w a b => @Bool.rec (fun _ => Option R) a b w) (fun w a b => @Bool.rec (fun _ => Option R) b a w) c w a b
theorem qsel_eq (c w : Bool) (a b : Option R) : qsel c w a b = if c = w then a else b := by cases c <;> cases w <;> rfl

noncomputable def qund (v : AV) (K : Option R) : Option R :=
  match v with
  | .tup [] => K
  | _ => none

noncomputable def qi (tab : Tab) (eqs : TypeId → Bool) (call : CallN) (i : QI) (st : List AV) (env : List (Nat × AV)) (h : NH) (K : AV → NH → Option R) : Option R :=
  @QI.rec (fun _ => List AV → List (Nat × AV) → NH → (AV → NH → Option R) → Option R)
    (fun G o => @Option.rec (Operand × Bool) (fun _ => List AV → List (Nat × AV) → NH → (AV → NH → Option R) → Option R) (oev tab eqs call o)
      (fun p st env h K => qrd p.1 st env fun v => aBool v (fun c => qsel c p.2 (oev tab eqs call o st env h K) (K (.tup []) h)) (qund v (K (.tup []) h))) G) i st env h K

noncomputable def qis (tab : Tab) (eqs : TypeId → Bool) (call : CallN) (is : List QI) (st : List AV) (env : List (Nat × AV)) (h : NH) (K : List AV → NH → Option R) : Option R :=
  @List.rec QI (fun _ => List AV → List (Nat × AV) → NH → (List AV → NH → Option R) → Option R) (fun st _ h K => K st h) (fun i _ go st env h K => qi tab eqs call i st env h fun v h => go (v :: st) env h K) is st env h K

theorem qis_append (tab : Tab) (eqs : TypeId → Bool) (call : CallN) : ∀ (is js : List QI) (st : List AV) (env : List (Nat × AV)) (h : NH) (K : List AV → NH → Option R),
    qis tab eqs call (is ++ js) st env h K = qis tab eqs call is st env h fun st h => qis tab eqs call js st env h K
  | [], js, st, env, h, K => rfl
  | i :: r, js, st, env, h, K => by
    show qi tab eqs call i st env h (fun v h => qis tab eqs call (r ++ js) (v :: st) env h K) = qi tab eqs call i st env h (fun v h => qis tab eqs call r (v :: st) env h fun st h => qis tab eqs call js st env h K)
    refine congrArg (qi tab eqs call i st env h) (funext fun v => funext fun h => ?_)
    exact qis_append tab eqs call r js (v :: st) env h K

end

/-! ### Places -/

noncomputable def qevA (st : List AV) (env : List (Nat × AV)) : Operand → AV
  | .global p => st.getD (st.length - 1 - p) .junk
  | x => qev st env x

def blw (n : Nat) : Operand → Prop
  | .global p => p < n
  | _ => True

theorem qevA_push {st : List AV} {env : List (Nat × AV)} {x : Operand} (h : blw st.length x) (v : AV) : qevA (v :: st) env x = qevA st env x := by
  cases x with
  | global p =>
    have h : p < st.length := h
    simp only [qevA, List.length_cons]
    rw [show st.length + 1 - 1 - p = (st.length - 1 - p) + 1 by omega]
    rfl
  | _ => rfl

theorem blw_push {n : Nat} {x : Operand} (h : blw n x) : blw (n + 1) x := by
  cases x with
  | global p => exact Nat.lt_succ_of_lt h
  | _ => trivial

theorem rel_ok {st : List AV} {env : List (Nat × AV)} {x : Operand} : qev st env (rel st.length x) = qevA st env x := by
  cases x <;> rfl

def svRel (st : List AV) (envQ envX : List (Nat × AV)) (t : Nat) : SV → Prop
  | .here x => blw st.length x ∧ qevA st envQ x = lk envX t
  | .gd g w x => blw st.length g ∧ blw st.length x ∧ ((∃ c, qevA st envQ g = .t (.bool c) ∧ (c = w → qevA st envQ x = lk envX t) ∧ (c ≠ w → lk envX t = .tup [])) ∨ (qevA st envQ g = .tup [] ∧ lk envX t = .tup []))

def Rel (σ : List (Nat × SV)) (st : List AV) (envQ envX : List (Nat × AV)) : Prop := ∀ t, svRel st envQ envX t (look σ t)

theorem svRel.push {st : List AV} {envQ envX : List (Nat × AV)} {t : Nat} {x : SV} (h : svRel st envQ envX t x) (v : AV) : svRel (v :: st) envQ envX t x := by
  cases x with
  | here x => exact ⟨blw_push h.1, by rw [qevA_push h.1]; exact h.2⟩
  | gd g w x =>
    obtain ⟨h1, h2, h3⟩ := h
    refine ⟨blw_push h1, blw_push h2, ?_⟩
    rw [qevA_push h1, qevA_push h2]
    exact h3

theorem svRel.lk {st : List AV} {envQ envX envX' : List (Nat × AV)} {t t' : Nat} {x : SV} (h : svRel st envQ envX t x) (e : Go.Proofs.YthpkehhghcpolaaDoor.lk envX' t' = Go.Proofs.YthpkehhghcpolaaDoor.lk envX t) : svRel st envQ envX' t' x := by
  cases x with
  | here x => exact ⟨h.1, h.2.trans e.symm⟩
  | gd g w x => simp only [svRel] at h ⊢; rw [e]; exact h

theorem Rel.push {σ : List (Nat × SV)} {st : List AV} {envQ envX : List (Nat × AV)} (h : Rel σ st envQ envX) (v : AV) : Rel σ (v :: st) envQ envX := fun t => (h t).push v

theorem Rel.tell {σ : List (Nat × SV)} {st : List AV} {envQ envX : List (Nat × AV)} (h : Rel σ st envQ envX) {d : Nat} {v : AV} (e : lk envX d = v) : Rel σ st envQ ((d, v) :: envX) := fun t =>
  (h t).lk (by rw [lk_cons]; split; · rename_i e2; rw [← e2, e]
               · rfl)

/-- A slot is given a value that lies so. -/
theorem Rel.set {σ : List (Nat × SV)} {st : List AV} {envQ envX : List (Nat × AV)} (h : Rel σ st envQ envX) {d : Nat} {v : AV} {x : SV} (hx : svRel st envQ ((d, v) :: envX) d x) : Rel ((d, x) :: σ) st envQ ((d, v) :: envX) := fun t => by
  rw [look_cons]
  split
  · rename_i e; subst e; exact hx
  · rename_i e; exact (h t).lk (by rw [lk_cons, if_neg e])

theorem qevA_top (v : AV) (st : List AV) (env : List (Nat × AV)) : qevA (v :: st) env (.global st.length) = v := by
  simp [qevA]

section
variable {R : Type} {P : Program} {tab : Tab} {eqs : TypeId → Bool} {call : CallN}

theorem qi_some {p : Operand × Bool} {o : QO} {st : List AV} {env : List (Nat × AV)} {h : NH} {K : AV → NH → Option R} {r : R} (hh : qi tab eqs call ⟨some p, o⟩ st env h K = some r) :
    (qev st env p.1 = .t (.bool p.2) ∧ oev tab eqs call o st env h K = some r) ∨ (qev st env p.1 = .t (.bool (!p.2)) ∧ K (.tup []) h = some r) ∨ (qev st env p.1 = .tup [] ∧ K (.tup []) h = some r) := by
  have hh : qrd p.1 st env (fun v => aBool v (fun c => qsel c p.2 (oev tab eqs call o st env h K) (K (.tup []) h)) (qund v (K (.tup []) h))) = some r := hh
  rw [qrd_eq] at hh
  rcases aBool_cases (qev st env p.1) (fun c => qsel c p.2 (oev tab eqs call o st env h K) (K (.tup []) h)) (qund (qev st env p.1) (K (.tup []) h)) with ⟨c, hc, e⟩ | ⟨_, e⟩
  · rw [e, qsel_eq] at hh
    split at hh
    · rename_i e2; rw [e2] at hc; exact .inl ⟨hc, hh⟩
    · rename_i e2
      have : c = !p.2 := by cases c <;> cases hp : p.2 <;> simp_all
      rw [this] at hc; exact .inr (.inl ⟨hc, hh⟩)
  · rw [e] at hh
    unfold qund at hh
    split at hh
    · rename_i e2; exact .inr (.inr ⟨e2, hh⟩)
    · cases hh

theorem qi_none {o : QO} {st : List AV} {env : List (Nat × AV)} {h : NH} {K : AV → NH → Option R} : qi tab eqs call ⟨none, o⟩ st env h K = oev tab eqs call o st env h K := rfl

theorem mats_ok {G : Gd} {envQ envX : List (Nat × AV)} {h : NH} : ∀ {l : List Operand} {σ : List (Nat × SV)} {n : Nat} {is : List QI} {σ' : List (Nat × SV)} {n' : Nat} {st : List AV} {K : List AV → NH → Option R} {r : R},
    matsL G l σ n = (is, σ', n') → st.length = n → Rel σ st envQ envX → qis tab eqs call is st envQ h K = some r →
    ∃ st', K st' h = some r ∧ st'.length = n' ∧ Rel σ' st' envQ envX ∧ ∀ x, blw st.length x → blw st'.length x ∧ qevA st' envQ x = qevA st envQ x
  | [], σ, n, is, σ', n', st, K, r, hm, hn, hr, hh => by
    cases hm
    exact ⟨st, hh, hn, hr, fun x h => ⟨h, rfl⟩⟩
  | .const v :: l, σ, n, is, σ', n', st, K, r, hm, hn, hr, hh => mats_ok (l := l) hm hn hr hh
  | .global v :: l, σ, n, is, σ', n', st, K, r, hm, hn, hr, hh => mats_ok (l := l) hm hn hr hh
  | .func v :: l, σ, n, is, σ', n', st, K, r, hm, hn, hr, hh => mats_ok (l := l) hm hn hr hh
  | .tmp t :: l, σ, n, is, σ', n', st, K, r, hm, hn, hr, hh => by
    unfold matsL at hm
    have hs := hr t
    split at hm
    · rename_i g w x hl
      rw [hl] at hs
      split at hm
      · exact mats_ok hm hn hr hh
      · generalize hq : matsL G l ((t, .here (.global n)) :: σ) (n + 1) = q at hm
        obtain ⟨js, σ2, n2⟩ := q
        cases hm
        obtain ⟨b1, b2, hs⟩ := hs
        have key : ∀ v, lk envX t = v → qis tab eqs call js (v :: st) envQ h K = some r →
            ∃ st', K st' h = some r ∧ st'.length = n' ∧ Rel σ' st' envQ envX ∧ ∀ x, blw st.length x → blw st'.length x ∧ qevA st' envQ x = qevA st envQ x := by
          intro v hv hk
          have hr2 : Rel ((t, .here (.global n)) :: σ) (v :: st) envQ envX := fun u => by
            rw [look_cons]
            split
            · rename_i e; subst e; rw [← hn]; exact ⟨Nat.lt_succ_self _, by rw [qevA_top]; exact hv.symm⟩
            · exact (hr.push v) u
          obtain ⟨st', k1, k2, k3, k4⟩ := mats_ok hq (by simp [hn]) hr2 hk
          exact ⟨st', k1, k2, k3, fun x hx => ⟨(k4 x (blw_push hx)).1, ((k4 x (blw_push hx)).2).trans (qevA_push hx v)⟩⟩
        have hh : qi tab eqs call ⟨some (rel n g, w), .mv (rel n x)⟩ st envQ h (fun v h => qis tab eqs call js (v :: st) envQ h K) = some r := hh
        rcases qi_some hh with ⟨e, hk⟩ | ⟨e, hk⟩ | ⟨e, hk⟩
        · rw [← hn, rel_ok] at e
          have hk : oMv (rel n x) st envQ h (fun v h => qis tab eqs call js (v :: st) envQ h K) = some r := hk
          unfold oMv at hk
          rw [qrd_eq, ← hn, rel_ok] at hk
          refine key _ ?_ hk
          rcases hs with ⟨c, h1, h2, h3⟩ | ⟨h1, _⟩
          · rw [h1] at e; cases e; exact (h2 rfl).symm
          · rw [h1] at e; cases e
        · rw [← hn, rel_ok] at e
          refine key _ ?_ hk
          rcases hs with ⟨c, h1, h2, h3⟩ | ⟨h1, h2⟩
          · rw [h1] at e; cases e; exact h3 (by cases w <;> simp)
          · exact h2
        · rw [← hn, rel_ok] at e
          refine key _ ?_ hk
          rcases hs with ⟨c, h1, h2, h3⟩ | ⟨h1, h2⟩
          · rw [h1] at e; cases e
          · exact h2
    · exact mats_ok hm hn hr hh

/-- A guard that holds. -/
def Holds (G : Gd) (st : List AV) (envQ : List (Nat × AV)) : Prop :=
  match G with
  | none => True
  | some (g, w) => qevA st envQ g = .t (.bool w)

theorem inG_eq {G : Gd} {g : Operand} {w : Bool} (h : inG G g w = true) : G = some (g, w) := by
  unfold inG at h
  split at h
  · simp only [Bool.and_eq_true, beq_iff_eq] at h
    rw [sameRef_eq h.1, h.2]
  · cases h

theorem use_ok {σ : List (Nat × SV)} {G : Gd} {t : Nat} {x : Operand} {st : List AV} {envQ envX : List (Nat × AV)} (h : useSlot σ G t = some x) (hr : Rel σ st envQ envX) (hg : Holds G st envQ) : blw st.length x ∧ qevA st envQ x = lk envX t := by
  have hs := hr t
  unfold useSlot at h
  split at h
  · rename_i y hl
    cases h
    rw [hl] at hs
    exact hs
  · rename_i g w y hl
    rw [hl] at hs
    split at h
    · rename_i hi
      cases h
      have := inG_eq hi
      subst this
      have hg : qevA st envQ g = .t (.bool w) := hg
      obtain ⟨_, b2, hs⟩ := hs
      rcases hs with ⟨c, h1, h2, h3⟩ | ⟨h1, _⟩
      · rw [h1] at hg; cases hg; exact ⟨b2, h2 rfl⟩
      · rw [h1] at hg; cases hg
    · cases h

theorem mapS_ok {σ : List (Nat × SV)} {G : Gd} {st : List AV} {envQ envX : List (Nat × AV)} (hr : Rel σ st envQ envX) (hg : Holds G st envQ) {x : Operand} (hx : okOpnd σ G x = true) : qev st envQ (mapS σ G st.length x) = opd envX x := by
  cases x with
  | const v => rfl
  | func f => rfl
  | global g => cases hx
  | tmp t =>
    simp only [okOpnd] at hx
    simp only [mapS]
    cases hu : useSlot σ G t with
    | none => rw [hu] at hx; cases hx
    | some y =>
      rw [hu] at hx
      obtain ⟨_, e⟩ := use_ok hu hr hg
      cases y with
      | tmp u => exact e
      | global p => exact e
      | const v => cases hx
      | func f => cases hx

theorem xassign_id {ty : TypeId} (h : sliceTy tab ty = false) {x : AV} {H : AH} {K : AV → AH → Prop} (k : K x H) : xassign tab ty x H K := by
  unfold xassign
  split
  · unfold sliceTy at h
    split
    · rename_i y hy
      rw [hy] at h
      split
      · rename_i e hd; simp only [hd] at h; cases h
      · exact k
    · exact k
  · exact k

theorem alias_ok {call : CallP} {o : Oper} {t : Nat} (h : aliasOf tab o = some t) {env : List (Nat × AV)} {H : AH} {K : AV → AH → Prop} (k : K (lk env t) H) : xop tab call o env H K := by
  unfold aliasOf at h
  unfold xop
  split at h
  · rename_i u ho
    cases h
    rw [ho]
    exact k
  · rename_i u ho
    split at h
    · cases h
    · rename_i hs
      cases h
      rw [ho]
      exact xassign_id hs k
  · cases h

/-- What came of operations. -/
def Came (P : Program) (tab : Tab) (ops : Array Oper) (X : St → (St → Prop) → Prop) (h : NH) (H : AH) (K : List AV → NH → Option R) (r : R) (σ' : List (Nat × SV)) (n' : Nat) (envQ envX : List (Nat × AV)) : Prop :=
  ∃ st' h' H' envX', K st' h' = some r ∧ st'.length = n' ∧ HA h' H' ∧ Stay h'.lo H H' ∧ h'.lo ≤ h.lo ∧ Rel σ' st' envQ envX' ∧ ∀ K' : St → Prop, K' ⟨envX', H'⟩ → X ⟨envX, H⟩ K'

theorem real_ok (hC : CallOK P call) (hE : ∀ t y, eqs t = true → tab t = some y → y.eqOK) {ops : Array Oper} {o : Oper} {G : Gd} {is0 : List QI} {σ0 : List (Nat × SV)} {n0 : Nat} {is : List QI} {σ' : List (Nat × SV)} {n' : Nat}
    (hc : compReal G o is0 σ0 n0 = some (is, σ', n')) {st : List AV} {envQ envX : List (Nat × AV)} {h : NH} {H : AH} {K : List AV → NH → Option R} {r : R} (hn : st.length = n0) (hr : Rel σ0 st envQ envX) (ha : HA h H) :
    ∃ js, is = is0 ++ js ∧ (qis tab eqs call js st envQ h K = some r →
      (G = none → Came P tab ops (fun s K => xop tab (CallS P) o s.env s.H fun v H => stp s o.dst v H K) h H K r σ' n' envQ envX) ∧
      (∀ g w, G = some (g, w) → blw st.length g → 
        (qevA st envQ g = .t (.bool w) ∧ ∀ d, (∃ v, lk envX d = v ∧ v = .t (.bool w)) → Came P tab ops (fun s K => xop tab (CallS P) o ((d, .t (.bool w)) :: s.env) s.H fun v H' => stp ⟨(d, .t (.bool w)) :: s.env, s.H⟩ o.dst v H' K) h H K r σ' n' envQ envX) ∨
        ((qevA st envQ g = .t (.bool (!w)) ∨ qevA st envQ g = .tup []) ∧ ∀ env', (∀ t, lk env' t = lk envX t) → Came P tab ops (fun s K => stp ⟨env', s.H⟩ o.dst (.tup []) s.H K) h H K r σ' n' envQ envX))) := by
  unfold compReal at hc
  generalize hq : matsL G (opnds o.op) σ0 n0 = q at hc
  obtain ⟨is1, σ1, n1⟩ := q
  simp only at hc
  split at hc
  · cases hc
  rename_i hall
  cases hc
  refine ⟨_, rfl, fun hh => ?_⟩
  rw [qis_append] at hh
  obtain ⟨st1, hh, hn1, hr1, hkeep⟩ := mats_ok hq hn hr hh
  have setv : ∀ {envX' : List (Nat × AV)}, (∀ t, lk envX' t = lk envX t) → ∀ v, Rel (dstTo o.dst (.here (.global n1)) σ1) (v :: st1) envQ (nput o.dst v envX') := by
    intro envX' he v
    have hr2 : Rel σ1 st1 envQ envX' := fun t => (hr1 t).lk (he t)
    cases o.dst with
    | none => exact hr2.push v
    | some d =>
      refine (hr2.push v).set ⟨by rw [← hn1]; exact Nat.lt_succ_self _, ?_⟩
      rw [← hn1, qevA_top, lk_cons, if_pos rfl]
  have done : ∀ {envX' : List (Nat × AV)}, (∀ t, lk envX' t = lk envX t) → Holds G st1 envQ → oev tab eqs call (QO.of o.type (mapOp (mapS σ1 G n1) o.op)) st1 envQ h (fun v h => K (v :: st1) h) = some r →
      ∃ v h' H', K (v :: st1) h' = some r ∧ HA h' H' ∧ Stay h'.lo H H' ∧ h'.lo ≤ h.lo ∧ ∀ K' : AV → AH → Prop, K' v H' → xop tab (CallS P) o envX' H K' := by
    intro envX' he hg hh
    have hr2 : Rel σ1 st1 envQ envX' := fun t => (hr1 t).lk (he t)
    have h1 := oev_ok hh
    rw [gop_map (ev' := opd envX') (fun x hx => by rw [← hn1]; exact mapS_ok hr2 hg (List.all_eq_true.1 hall x hx)) (mapS_const σ1 G n1)] at h1
    exact gop_ok hC hE ha h1
  constructor
  · intro hG
    subst hG
    have hh : oev tab eqs call (QO.of o.type (mapOp (mapS σ1 none n1) o.op)) st1 envQ h (fun v h => K (v :: st1) h) = some r := hh
    obtain ⟨v, h', H', k1, k2, k3, k4, k5⟩ := done (envX' := envX) (fun t => rfl) trivial hh
    exact ⟨v :: st1, h', H', _, k1, by simp [hn1], k2, k3, k4, setv (fun t => rfl) v, fun K' k => k5 _ (by rw [stp_eq, putSt]; exact k)⟩
  · intro g w hG hb
    subst hG
    have hh : qi tab eqs call ⟨some (rel n1 g, w), QO.of o.type (mapOp (mapS σ1 (some (g, w)) n1) o.op)⟩ st1 envQ h (fun v h => K (v :: st1) h) = some r := hh
    have hkg := hkeep g hb
    rcases qi_some hh with ⟨e, hh⟩ | ⟨e, hh⟩ | ⟨e, hh⟩
    · rw [← hn1, rel_ok] at e
      refine .inl ⟨hkg.2 ▸ e, fun d ⟨u, hu, hu2⟩ => ?_⟩
      have he : ∀ t, lk ((d, .t (.bool w)) :: envX) t = lk envX t := fun t => by
        rw [lk_cons]
        split
        · rename_i e; rw [← e, hu, hu2]
        · rfl
      obtain ⟨v, h', H', k1, k2, k3, k4, k5⟩ := done he e hh
      exact ⟨v :: st1, h', H', _, k1, by simp [hn1], k2, k3, k4, setv he v, fun K' k => k5 _ (by rw [stp_eq, putSt]; exact k)⟩
    · rw [← hn1, rel_ok] at e
      refine .inr ⟨.inl (hkg.2 ▸ e), fun env' he => ?_⟩
      exact ⟨_, h, H, _, hh, by simp [hn1], ha, Stay.refl _ _, Nat.le_refl _, setv he _, fun K' k => by dsimp only; rw [stp_eq, putSt]; exact k⟩
    · rw [← hn1, rel_ok] at e
      refine .inr ⟨.inr (hkg.2 ▸ e), fun env' he => ?_⟩
      exact ⟨_, h, H, _, hh, by simp [hn1], ha, Stay.refl _ _, Nat.le_refl _, setv he _, fun K' k => by dsimp only; rw [stp_eq, putSt]; exact k⟩

end
end Go.Proofs.YthpkehhghcpolaaDoor
