/-
  The ground of the walks of this seat, part Fd.
-/
import Derived.Test.YtnjmeadmkbkikaaGreatDoorFc
import Derived.Recover
namespace Go.Proofs.YtnjmeadmkbkikaaGreatDoor
open Go.RowKit
set_option linter.unusedVariables false
set_option linter.unusedSimpArgs false

/-- Where a slot's value is: at a place (counted from the stack's ground); so only if a guard holds. -/
inductive SV where
  | here (x : Operand)
  | gd (g : Operand) (w : Bool) (x : Operand)

def sameRef : Operand → Operand → Bool
  | .tmp a, .tmp b => Nat.beq a b
  | .global a, .global b => Nat.beq a b
  | _, _ => false

theorem sameRef_eq {x y : Operand} (h : sameRef x y = true) : x = y := by
  unfold sameRef at h
  split at h
  · rw [Nat.eq_of_beq_eq_true h]
  · rw [Nat.eq_of_beq_eq_true h]
  · cases h

def look : List (Nat × SV) → Nat → SV
  | [], t => .here (.tmp t)
  | (a, v) :: r, t => match Nat.beq a t with | true => v | false => look r t

theorem look_cons (a : Nat) (v : SV) (r : List (Nat × SV)) (t : Nat) : look ((a, v) :: r) t = if a = t then v else look r t := by
  simp only [look, natbeq]
  by_cases h : a = t <;> simp [h]

abbrev Gd := Option (Operand × Bool)

def inG : Gd → Operand → Bool → Bool
  | some (g', w'), g, w => sameRef g' g && (w' == w)
  | none, _, _ => false

def useSlot (σ : List (Nat × SV)) (G : Gd) (t : Nat) : Option Operand :=
  match look σ t with
  | .here x => some x
  | .gd g w x => match inG G g w with | true => some x | false => none

def rel (n : Nat) : Operand → Operand
  | .global p => .global (n - 1 - p)
  | x => x

def mapS (σ : List (Nat × SV)) (G : Gd) (n : Nat) : Operand → Operand
  | .tmp t => (match useSlot σ G t with | some (.global p) => .global (n - 1 - p) | some (.tmp u) => .tmp u | _ => .tmp t)
  | x => x

theorem mapS_const (σ : List (Nat × SV)) (G : Gd) (n : Nat) (x : Operand) : isConst (mapS σ G n x) = isConst x := by
  cases x <;> first | rfl | skip
  simp only [mapS]
  split <;> rfl

/-- An operation of a region, and whether it is done. -/
structure QI where
  guard : Gd
  o : QO

def matsL (G : Gd) : List Operand → List (Nat × SV) → Nat → List QI × List (Nat × SV) × Nat
  | [], σ, n => ([], σ, n)
  | .tmp t :: r, σ, n =>
    (match look σ t with
    | .gd g w x =>
      (match inG G g w with
      | true => matsL G r σ n
      | false => (match matsL G r ((t, .here (.global n)) :: σ) (n + 1) with | (is, σ', n') => (⟨some (rel n g, w), .mv (rel n x)⟩ :: is, σ', n')))
    | .here _ => matsL G r σ n)
  | _ :: r, σ, n => matsL G r σ n

def refOK : Operand → Bool
  | .tmp _ => true
  | .global _ => true
  | _ => false

def okOpnd (σ : List (Nat × SV)) (G : Gd) : Operand → Bool
  | .tmp t => (match useSlot σ G t with | some x => refOK x | none => false)
  | .const _ => true
  | .func _ => true
  | .global _ => false

def sliceTy (tab : Tab) (t : TypeId) : Bool :=
  match tab t with
  | some y => (match y.d with | .slice _ => true | _ => false)
  | none => false

def aliasOf (tab : Tab) (o : Oper) : Option Nat :=
  match o.op with
  | .move (.tmp t) => some t
  | .assign (.tmp t) => (match sliceTy tab o.type with | true => none | false => some t)
  | _ => none

def gdOf (ops : Array Oper) (σ : List (Nat × SV)) (o : Oper) : Option Gd :=
  match o.guard with
  | none => some none
  | some (j, w) =>
    match guardSlot ops j with
    | some d => (match look σ d with | .here x => some (some (x, w)) | _ => none)
    | none => none

def gdSlot (ops : Array Oper) (o : Oper) : List Operand :=
  match o.guard with
  | none => []
  | some (j, _) => match guardSlot ops j with | some d => [.tmp d] | none => []

def dstTo (d : Option Tmp) (x : SV) (σ : List (Nat × SV)) : List (Nat × SV) :=
  match d with
  | some d => (d, x) :: σ
  | none => σ

def compReal (G : Gd) (o : Oper) (is0 : List QI) (σ0 : List (Nat × SV)) (n0 : Nat) : Option (List QI × List (Nat × SV) × Nat) :=
  match matsL G (opnds o.op) σ0 n0 with
  | (is1, σ1, n1) =>
    match (opnds o.op).all (okOpnd σ1 G) with
    | false => none
    | true => some (is0 ++ (is1 ++ [⟨G.map fun p => (rel n1 p.1, p.2), QO.of o.type (mapOp (mapS σ1 G n1) o.op)⟩]), dstTo o.dst (.here (.global n1)) σ1, n1 + 1)

def compO (tab : Tab) (ops : Array Oper) (o : Oper) (σ : List (Nat × SV)) (n : Nat) : Option (List QI × List (Nat × SV) × Nat) :=
  match matsL none (gdSlot ops o) σ n with
  | (is0, σ0, n0) =>
    match gdOf ops σ0 o with
    | none => none
    | some G =>
      match aliasOf tab o, o.dst with
      | some t, some d =>
        (match G with
        | none => some (is0, (d, look σ0 t) :: σ0, n0)
        | some g => compReal (some g) o is0 σ0 n0)
      | _, _ => compReal G o is0 σ0 n0

def compL (tab : Tab) (ops : Array Oper) : List Oper → List (Nat × SV) → Nat → Option (List QI × List (Nat × SV) × Nat)
  | [], σ, n => some ([], σ, n)
  | o :: r, σ, n =>
    match compO tab ops o σ n with
    | none => none
    | some (is, σ1, n1) =>
      match compL tab ops r σ1 n1 with
      | none => none
      | some (js, σ2, n2) => some (is ++ js, σ2, n2)

/-- The slots to be written at the end: those that aren't dead. -/
def wk (D : Nat) : Nat → List (Nat × SV) → List Nat
  | _, [] => []
  | m, (t, _) :: r => match D.testBit t || m.testBit t with | true => wk D m r | false => t :: wk D (Nat.lor m (Nat.shiftLeft 1 t)) r

def compR (tab : Tab) (D : Nat) (ops : Array Oper) : Option (List QI × List (Nat × Operand)) :=
  match compL tab ops ops.toList [] 0 with
  | none => none
  | some (is, σ, n) =>
    match matsL none ((wk D 0 σ).map .tmp) σ n with
    | (js, σ', n') =>
      match (wk D 0 σ).all (fun t => okOpnd σ' none (.tmp t)) && σ'.all (fun p => D.testBit p.1 || (wk D 0 σ).contains p.1) with
      | false => none
      | true => some (is ++ js, (wk D 0 σ).map fun t => (t, mapS σ' none n' (.tmp t)))

section
variable {R : Type}

noncomputable def qsel (c w : Bool) (a b : Option R) : Option R :=
  @Bool.rec (fun _ => Bool → Option R → Option R → Option R) (fun w a b => @Bool.rec (fun _ => Option R) a b w) (fun w a b => @Bool.rec (fun _ => Option R) b a w) c w a b
theorem qsel_eq (c w : Bool) (a b : Option R) : qsel c w a b = if c = w then a else b := by cases c <;> cases w <;> rfl

noncomputable def qund (v : AV) (K : Option R) : Option R :=
  match v with
  | .tup [] => K
  | _ => none

noncomputable def qi (tab : Tab) (eqs : TypeId → Bool) (call : CallN) (i : QI) (st : List AV) (env : List (Nat × AV)) (h : NH) (K : AV → NH → Option R) : Option R :=
  @QI.rec (fun _ => List AV → List (Nat × AV) → NH → (AV → NH → Option R) → Option R)
    (fun G o => @Option.rec (Operand × Bool) (fun _ => List AV → List (Nat × AV) → NH → (AV → NH → Option R) → Option R) (oev tab eqs call o)
      (fun p st env h K => qrd p.1 st env fun v => aBool v (fun c => qsel c p.2 (oev tab eqs call o st env h K) (K (.tup []) h)) (qund v (K (.tup []) h))) G) i st env h K

noncomputable def qis (tab : Tab) (eqs : TypeId → Bool) (call : CallN) (is : List QI) (st : List AV) (env : List (Nat × AV)) (h : NH) (K : List AV → NH → Option R) : Option R :=
  @List.rec QI (fun _ => List AV → List (Nat × AV) → NH → (List AV → NH → Option R) → Option R) (fun st _ h K => K st h) (fun i _ go st env h K => qi tab eqs call i st env h fun v h => go (v :: st) env h K) is st env h K

theorem qis_append (tab : Tab) (eqs : TypeId → Bool) (call : CallN) : ∀ (is js : List QI) (st : List AV) (env : List (Nat × AV)) (h : NH) (K : List AV → NH → Option R),
    qis tab eqs call (is ++ js) st env h K = qis tab eqs call is st env h fun st h => qis tab eqs call js st env h K
  | [], js, st, env, h, K => rfl
  | i :: r, js, st, env, h, K => by
    show qi tab eqs call i st env h (fun v h => qis tab eqs call (r ++ js) (v :: st) env h K) = qi tab eqs call i st env h (fun v h => qis tab eqs call r (v :: st) env h fun st h => qis tab eqs call js st env h K)
    refine congrArg (qi tab eqs call i st env h) (funext fun v => funext fun h => ?_)
    exact qis_append tab eqs call r js (v :: st) env h K

end

/-! ### Places -/

noncomputable def qevA (st : List AV) (env : List (Nat × AV)) : Operand → AV
  | .global p => st.getD (st.length - 1 - p) .junk
  | x => qev st env x

def blw (n : Nat) : Operand → Prop
  | .global p => p < n
  | _ => True

theorem qevA_push {st : List AV} {env : List (Nat × AV)} {x : Operand} (h : blw st.length x) (v : AV) : qevA (v :: st) env x = qevA st env x := by
  cases x with
  | global p =>
    have h : p < st.length := h
    simp only [qevA, List.length_cons]
    rw [show st.length + 1 - 1 - p = (st.length - 1 - p) + 1 by omega]
    rfl
  | _ => rfl

theorem blw_push {n : Nat} {x : Operand} (h : blw n x) : blw (n + 1) x := by
  cases x with
  | global p => exact Nat.lt_succ_of_lt h
  | _ => trivial

theorem rel_ok {st : List AV} {env : List (Nat × AV)} {x : Operand} : qev st env (rel st.length x) = qevA st env x := by
  cases x <;> rfl

def svRel (st : List AV) (envQ envX : List (Nat × AV)) (t : Nat) : SV → Prop
  | .here x => blw st.length x ∧ qevA st envQ x = lk envX t
  | .gd g w x => blw st.length g ∧ blw st.length x ∧ ((∃ c, qevA st envQ g = .t (.bool c) ∧ (c = w → qevA st envQ x = lk envX t) ∧ (c ≠ w → lk envX t = .tup [])) ∨ (qevA st envQ g = .tup [] ∧ lk envX t = .tup []))

def Rel (σ : List (Nat × SV)) (st : List AV) (envQ envX : List (Nat × AV)) : Prop := ∀ t, svRel st envQ envX t (look σ t)

theorem svRel.push {st : List AV} {envQ envX : List (Nat × AV)} {t : Nat} {x : SV} (h : svRel st envQ envX t x) (v : AV) : svRel (v :: st) envQ envX t x := by
  cases x with
  | here x => exact ⟨blw_push h.1, by rw [qevA_push h.1]; exact h.2⟩
  | gd g w x =>
    obtain ⟨h1, h2, h3⟩ := h
    refine ⟨blw_push h1, blw_push h2, ?_⟩
    rw [qevA_push h1, qevA_push h2]
    exact h3

theorem svRel.lk {st : List AV} {envQ envX envX' : List (Nat × AV)} {t t' : Nat} {x : SV} (h : svRel st envQ envX t x) (e : Go.Proofs.YtnjmeadmkbkikaaGreatDoor.lk envX' t' = Go.Proofs.YtnjmeadmkbkikaaGreatDoor.lk envX t) : svRel st envQ envX' t' x := by
  cases x with
  | here x => exact ⟨h.1, h.2.trans e.symm⟩
  | gd g w x => simp only [svRel] at h ⊢; rw [e]; exact h

theorem Rel.push {σ : List (Nat × SV)} {st : List AV} {envQ envX : List (Nat × AV)} (h : Rel σ st envQ envX) (v : AV) : Rel σ (v :: st) envQ envX := fun t => (h t).push v

theorem Rel.tell {σ : List (Nat × SV)} {st : List AV} {envQ envX : List (Nat × AV)} (h : Rel σ st envQ envX) {d : Nat} {v : AV} (e : lk envX d = v) : Rel σ st envQ ((d, v) :: envX) := fun t =>
  (h t).lk (by rw [lk_cons]; split; · rename_i e2; rw [← e2, e]
               · rfl)

/-- A slot is given a value that lies so. -/
theorem Rel.set {σ : List (Nat × SV)} {st : List AV} {envQ envX : List (Nat × AV)} (h : Rel σ st envQ envX) {d : Nat} {v : AV} {x : SV} (hx : svRel st envQ ((d, v) :: envX) d x) : Rel ((d, x) :: σ) st envQ ((d, v) :: envX) := fun t => by
  rw [look_cons]
  split
  · rename_i e; subst e; exact hx
  · rename_i e; exact (h t).lk (by rw [lk_cons, if_neg e])

theorem qevA_top (v : AV) (st : List AV) (env : List (Nat × AV)) : qevA (v :: st) env (.global st.length) = v := by
  simp [qevA]

section
variable {R : Type} {P : Program} {tab : Tab} {eqs : TypeId → Bool} {call : CallN}

theorem qi_some {p : Operand × Bool} {o : QO} {st : List AV} {env : List (Nat × AV)} {h : NH} {K : AV → NH → Option R} {r : R} (hh : qi tab eqs call ⟨some p, o⟩ st env h K = some r) :
    (qev st env p.1 = .t (.bool p.2) ∧ oev tab eqs call o st env h K = some r) ∨ (qev st env p.1 = .t (.bool (!p.2)) ∧ K (.tup []) h = some r) ∨ (qev st env p.1 = .tup [] ∧ K (.tup []) h = some r) := by
  have hh : qrd p.1 st env (fun v => aBool v (fun c => qsel c p.2 (oev tab eqs call o st env h K) (K (.tup []) h)) (qund v (K (.tup []) h))) = some r := hh
  rw [qrd_eq] at hh
  rcases aBool_cases (qev st env p.1) (fun c => qsel c p.2 (oev tab eqs call o st env h K) (K (.tup []) h)) (qund (qev st env p.1) (K (.tup []) h)) with ⟨c, hc, e⟩ | ⟨_, e⟩
  · rw [e, qsel_eq] at hh
    split at hh
    · rename_i e2; rw [e2] at hc; exact .inl ⟨hc, hh⟩
    · rename_i e2
      have : c = !p.2 := by cases c <;> cases hp : p.2 <;> simp_all
      rw [this] at hc; exact .inr (.inl ⟨hc, hh⟩)
  · rw [e] at hh
    unfold qund at hh
    split at hh
    · rename_i e2; exact .inr (.inr ⟨e2, hh⟩)
    · cases hh

theorem mats_ok {G : Gd} {envQ envX : List (Nat × AV)} {h : NH} : ∀ {l : List Operand} {σ : List (Nat × SV)} {n : Nat} {is : List QI} {σ' : List (Nat × SV)} {n' : Nat} {st : List AV} {K : List AV → NH → Option R} {r : R},
    matsL G l σ n = (is, σ', n') → st.length = n → Rel σ st envQ envX → qis tab eqs call is st envQ h K = some r →
    ∃ st', K st' h = some r ∧ st'.length = n' ∧ Rel σ' st' envQ envX ∧ ∀ x, blw st.length x → blw st'.length x ∧ qevA st' envQ x = qevA st envQ x
  | [], σ, n, is, σ', n', st, K, r, hm, hn, hr, hh => by
    cases hm
    exact ⟨st, hh, hn, hr, fun x h => ⟨h, rfl⟩⟩
  | .const v :: l, σ, n, is, σ', n', st, K, r, hm, hn, hr, hh => mats_ok (l := l) hm hn hr hh
  | .global v :: l, σ, n, is, σ', n', st, K, r, hm, hn, hr, hh => mats_ok (l := l) hm hn hr hh
  | .func v :: l, σ, n, is, σ', n', st, K, r, hm, hn, hr, hh => mats_ok (l := l) hm hn hr hh
  | .tmp t :: l, σ, n, is, σ', n', st, K, r, hm, hn, hr, hh => by
    unfold matsL at hm
    have hs := hr t
    split at hm
    · rename_i g w x hl
      rw [hl] at hs
      split at hm
      · exact mats_ok hm hn hr hh
      · generalize hq : matsL G l ((t, .here (.global n)) :: σ) (n + 1) = q at hm
        obtain ⟨js, σ2, n2⟩ := q
        cases hm
        obtain ⟨b1, b2, hs⟩ := hs
        have key : ∀ v, lk envX t = v → qis tab eqs call js (v :: st) envQ h K = some r →
            ∃ st', K st' h = some r ∧ st'.length = n' ∧ Rel σ' st' envQ envX ∧ ∀ x, blw st.length x → blw st'.length x ∧ qevA st' envQ x = qevA st envQ x := by
          intro v hv hk
          have hr2 : Rel ((t, .here (.global n)) :: σ) (v :: st) envQ envX := fun u => by
            rw [look_cons]
            split
            · rename_i e; subst e; rw [← hn]; exact ⟨Nat.lt_succ_self _, by rw [qevA_top]; exact hv.symm⟩
            · exact (hr.push v) u
          obtain ⟨st', k1, k2, k3, k4⟩ := mats_ok hq (by simp [hn]) hr2 hk
          exact ⟨st', k1, k2, k3, fun x hx => ⟨(k4 x (blw_push hx)).1, ((k4 x (blw_push hx)).2).trans (qevA_push hx v)⟩⟩
        have hh : qi tab eqs call ⟨some (rel n g, w), .mv (rel n x)⟩ st envQ h (fun v h => qis tab eqs call js (v :: st) envQ h K) = some r := hh
        rcases qi_some hh with ⟨e, hk⟩ | ⟨e, hk⟩ | ⟨e, hk⟩
        · rw [← hn, rel_ok] at e
          have hk : oMv (rel n x) st envQ h (fun v h => qis tab eqs call js (v :: st) envQ h K) = some r := hk
          unfold oMv at hk
          rw [qrd_eq, ← hn, rel_ok] at hk
          refine key _ ?_ hk
          rcases hs with ⟨c, h1, h2, h3⟩ | ⟨h1, _⟩
          · rw [h1] at e; cases e; exact (h2 rfl).symm
          · rw [h1] at e; cases e
        · rw [← hn, rel_ok] at e
          refine key _ ?_ hk
          rcases hs with ⟨c, h1, h2, h3⟩ | ⟨h1, h2⟩
          · rw [h1] at e; cases e; exact h3 (by cases w <;> simp)
          · exact h2
        · rw [← hn, rel_ok] at e
          refine key _ ?_ hk
          rcases hs with ⟨c, h1, h2, h3⟩ | ⟨h1, h2⟩
          · rw [h1] at e; cases e
          · exact h2
    · exact mats_ok hm hn hr hh

/-- A guard that holds. -/
def Holds (G : Gd) (st : List AV) (envQ : List (Nat × AV)) : Prop :=
  match G with
  | none => True
  | some (g, w) => qevA st envQ g = .t (.bool w)

theorem inG_eq {G : Gd} {g : Operand} {w : Bool} (h : inG G g w = true) : G = some (g, w) := by
  unfold inG at h
  split at h
  · simp only [Bool.and_eq_true, beq_iff_eq] at h
    rw [sameRef_eq h.1, h.2]
  · cases h

theorem use_ok {σ : List (Nat × SV)} {G : Gd} {t : Nat} {x : Operand} {st : List AV} {envQ envX : List (Nat × AV)} (h : useSlot σ G t = some x) (hr : Rel σ st envQ envX) (hg : Holds G st envQ) : blw st.length x ∧ qevA st envQ x = lk envX t := by
  have hs := hr t
  unfold useSlot at h
  split at h
  · rename_i y hl
    cases h
    rw [hl] at hs
    exact hs
  · rename_i g w y hl
    rw [hl] at hs
    split at h
    · rename_i hi
      cases h
      have := inG_eq hi
      subst this
      have hg : qevA st envQ g = .t (.bool w) := hg
      obtain ⟨_, b2, hs⟩ := hs
      rcases hs with ⟨c, h1, h2, h3⟩ | ⟨h1, _⟩
      · rw [h1] at hg; cases hg; exact ⟨b2, h2 rfl⟩
      · rw [h1] at hg; cases hg
    · cases h

theorem mapS_ok {σ : List (Nat × SV)} {G : Gd} {st : List AV} {envQ envX : List (Nat × AV)} (hr : Rel σ st envQ envX) (hg : Holds G st envQ) {x : Operand} (hx : okOpnd σ G x = true) : qev st envQ (mapS σ G st.length x) = opd envX x := by
  cases x with
  | const v => rfl
  | func f => rfl
  | global g => cases hx
  | tmp t =>
    simp only [okOpnd] at hx
    simp only [mapS]
    cases hu : useSlot σ G t with
    | none => rw [hu] at hx; cases hx
    | some y =>
      rw [hu] at hx
      obtain ⟨_, e⟩ := use_ok hu hr hg
      cases y with
      | tmp u => exact e
      | global p => exact e
      | const v => cases hx
      | func f => cases hx

theorem xassign_id {ty : TypeId} (h : sliceTy tab ty = false) {x : AV} {H : AH} {K : AV → AH → Prop} (k : K x H) : xassign tab ty x H K := by
  unfold xassign
  split
  · unfold sliceTy at h
    split
    · rename_i y hy
      rw [hy] at h
      split
      · rename_i e hd; simp only [hd] at h; cases h
      · exact k
    · exact k
  · exact k

theorem alias_ok {call : CallP} {o : Oper} {t : Nat} (h : aliasOf tab o = some t) {env : List (Nat × AV)} {H : AH} {K : AV → AH → Prop} (k : K (lk env t) H) : xop tab call o env H K := by
  unfold aliasOf at h
  unfold xop
  split at h
  · rename_i u ho
    cases h
    rw [ho]
    exact k
  · rename_i u ho
    split at h
    · cases h
    · rename_i hs
      cases h
      rw [ho]
      exact xassign_id hs k
  · cases h

/-- What came of operations. -/
def Came (P : Program) (tab : Tab) (ops : Array Oper) (X : St → (St → Prop) → Prop) (h : NH) (H : AH) (K : List AV → NH → Option R) (r : R) (σ' : List (Nat × SV)) (n' : Nat) (envQ envX : List (Nat × AV)) : Prop :=
  ∃ st' h' H' envX', K st' h' = some r ∧ st'.length = n' ∧ HA h' H' ∧ Stay h'.lo H H' ∧ h'.lo ≤ h.lo ∧ Rel σ' st' envQ envX' ∧ ∀ K' : St → Prop, K' ⟨envX', H'⟩ → X ⟨envX, H⟩ K'

theorem real_ok (hC : CallOK P call) (hE : ∀ t y, eqs t = true → tab t = some y → y.eqOK) {ops : Array Oper} {o : Oper} {G : Gd} {is0 : List QI} {σ0 : List (Nat × SV)} {n0 : Nat} {is : List QI} {σ' : List (Nat × SV)} {n' : Nat}
    (hc : compReal G o is0 σ0 n0 = some (is, σ', n')) {st : List AV} {envQ envX : List (Nat × AV)} {h : NH} {H : AH} {K : List AV → NH → Option R} {r : R} (hn : st.length = n0) (hr : Rel σ0 st envQ envX) (ha : HA h H) :
    ∃ js, is = is0 ++ js ∧ (qis tab eqs call js st envQ h K = some r →
      (G = none → Came P tab ops (fun s K => xop tab (CallS P) o s.env s.H fun v H => stp s o.dst v H K) h H K r σ' n' envQ envX) ∧
      (∀ g w, G = some (g, w) → blw st.length g → 
        (qevA st envQ g = .t (.bool w) ∧ ∀ d, (∃ v, lk envX d = v ∧ v = .t (.bool w)) → Came P tab ops (fun s K => xop tab (CallS P) o ((d, .t (.bool w)) :: s.env) s.H fun v H' => stp ⟨(d, .t (.bool w)) :: s.env, s.H⟩ o.dst v H' K) h H K r σ' n' envQ envX) ∨
        ((qevA st envQ g = .t (.bool (!w)) ∨ qevA st envQ g = .tup []) ∧ ∀ env', (∀ t, lk env' t = lk envX t) → Came P tab ops (fun s K => stp ⟨env', s.H⟩ o.dst (.tup []) s.H K) h H K r σ' n' envQ envX))) := by
  unfold compReal at hc
  generalize hq : matsL G (opnds o.op) σ0 n0 = q at hc
  obtain ⟨is1, σ1, n1⟩ := q
  simp only at hc
  split at hc
  · cases hc
  rename_i hall
  cases hc
  refine ⟨_, rfl, fun hh => ?_⟩
  rw [qis_append] at hh
  obtain ⟨st1, hh, hn1, hr1, hkeep⟩ := mats_ok hq hn hr hh
  have setv : ∀ {envX' : List (Nat × AV)}, (∀ t, lk envX' t = lk envX t) → ∀ v, Rel (dstTo o.dst (.here (.global n1)) σ1) (v :: st1) envQ (nput o.dst v envX') := by
    intro envX' he v
    have hr2 : Rel σ1 st1 envQ envX' := fun t => (hr1 t).lk (he t)
    cases o.dst with
    | none => exact hr2.push v
    | some d =>
      refine (hr2.push v).set ⟨by rw [← hn1]; exact Nat.lt_succ_self _, ?_⟩
      rw [← hn1, qevA_top, lk_cons, if_pos rfl]
  have done : ∀ {envX' : List (Nat × AV)}, (∀ t, lk envX' t = lk envX t) → Holds G st1 envQ → oev tab eqs call (QO.of o.type (mapOp (mapS σ1 G n1) o.op)) st1 envQ h (fun v h => K (v :: st1) h) = some r →
      ∃ v h' H', K (v :: st1) h' = some r ∧ HA h' H' ∧ Stay h'.lo H H' ∧ h'.lo ≤ h.lo ∧ ∀ K' : AV → AH → Prop, K' v H' → xop tab (CallS P) o envX' H K' := by
    intro envX' he hg hh
    have hr2 : Rel σ1 st1 envQ envX' := fun t => (hr1 t).lk (he t)
    have h1 := oev_ok hh
    rw [gop_map (ev' := opd envX') (fun x hx => by rw [← hn1]; exact mapS_ok hr2 hg (List.all_eq_true.1 hall x hx)) (mapS_const σ1 G n1)] at h1
    exact gop_ok hC hE ha h1
  constructor
  · intro hG
    subst hG
    have hh : oev tab eqs call (QO.of o.type (mapOp (mapS σ1 none n1) o.op)) st1 envQ h (fun v h => K (v :: st1) h) = some r := hh
    obtain ⟨v, h', H', k1, k2, k3, k4, k5⟩ := done (envX' := envX) (fun t => rfl) trivial hh
    exact ⟨v :: st1, h', H', _, k1, by simp [hn1], k2, k3, k4, setv (fun t => rfl) v, fun K' k => k5 _ (by rw [stp_eq, putSt]; exact k)⟩
  · intro g w hG hb
    subst hG
    have hh : qi tab eqs call ⟨some (rel n1 g, w), QO.of o.type (mapOp (mapS σ1 (some (g, w)) n1) o.op)⟩ st1 envQ h (fun v h => K (v :: st1) h) = some r := hh
    have hkg := hkeep g hb
    rcases qi_some hh with ⟨e, hh⟩ | ⟨e, hh⟩ | ⟨e, hh⟩
    · rw [← hn1, rel_ok] at e
      refine .inl ⟨hkg.2 ▸ e, fun d ⟨u, hu, hu2⟩ => ?_⟩
      have he : ∀ t, lk ((d, .t (.bool w)) :: envX) t = lk envX t := fun t => by
        rw [lk_cons]
        split
        · rename_i e; rw [← e, hu, hu2]
        · rfl
      obtain ⟨v, h', H', k1, k2, k3, k4, k5⟩ := done he e hh
      exact ⟨v :: st1, h', H', _, k1, by simp [hn1], k2, k3, k4, setv he v, fun K' k => k5 _ (by rw [stp_eq, putSt]; exact k)⟩
    · rw [← hn1, rel_ok] at e
      refine .inr ⟨.inl (hkg.2 ▸ e), fun env' he => ?_⟩
      exact ⟨_, h, H, _, hh, by simp [hn1], ha, Stay.refl _ _, Nat.le_refl _, setv he _, fun K' k => by dsimp only; rw [stp_eq, putSt]; exact k⟩
    · rw [← hn1, rel_ok] at e
      refine .inr ⟨.inr (hkg.2 ▸ e), fun env' he => ?_⟩
      exact ⟨_, h, H, _, hh, by simp [hn1], ha, Stay.refl _ _, Nat.le_refl _, setv he _, fun K' k => by dsimp only; rw [stp_eq, putSt]; exact k⟩

end
end Go.Proofs.YtnjmeadmkbkikaaGreatDoor

namespace Go.Proofs.YtnjmeadmkbkikaaGreatDoor
open Go.RowKit
set_option linter.unusedVariables false
set_option linter.unusedSimpArgs false

section
variable {R : Type} {P : Program} {tab : Tab} {eqs : TypeId → Bool} {call : CallN}

theorem xguard_none {call : CallP} {ops : Array Oper} {o : Oper} {s : St} {K : St → Prop} (hg : o.guard = none) (k : xop tab call o s.env s.H fun v H => stp s o.dst v H K) : xguard tab call ops o s K := by
  obtain ⟨env, H⟩ := s
  simp only [xguard, hg]
  simp only [stp_eq] at k ⊢
  exact k

theorem xguard_true {call : CallP} {ops : Array Oper} {o : Oper} {env : List (Nat × AV)} {H : AH} {K : St → Prop} {j d : Nat} {w : Bool} (hg : o.guard = some (j, w)) (hd : guardSlot ops j = some d) (hv : lk env d = .t (.bool w))
    (k : xop tab call o ((d, .t (.bool w)) :: env) H fun v H' => stp ⟨(d, .t (.bool w)) :: env, H⟩ o.dst v H' K) : xguard tab call ops o ⟨env, H⟩ K := by
  simp only [xguard, hg]
  refine opt_intro hd ?_
  rw [hv]
  cases w <;> exact k

theorem xguard_false {call : CallP} {ops : Array Oper} {o : Oper} {env : List (Nat × AV)} {H : AH} {K : St → Prop} {j d : Nat} {w : Bool} (hg : o.guard = some (j, w)) (hd : guardSlot ops j = some d) (hv : lk env d = .t (.bool (!w)))
    (k : stp ⟨(d, .t (.bool (!w))) :: env, H⟩ o.dst (.tup []) H K) : xguard tab call ops o ⟨env, H⟩ K := by
  simp only [xguard, hg]
  refine opt_intro hd ?_
  rw [hv]
  cases w <;> exact k

theorem xguard_und {call : CallP} {ops : Array Oper} {o : Oper} {env : List (Nat × AV)} {H : AH} {K : St → Prop} {j d : Nat} {w : Bool} (hg : o.guard = some (j, w)) (hd : guardSlot ops j = some d) (hv : lk env d = .tup [])
    (k : stp ⟨env, H⟩ o.dst (.tup []) H K) : xguard tab call ops o ⟨env, H⟩ K := by
  simp only [xguard, hg]
  refine opt_intro hd ?_
  rw [hv]
  exact k

/-- A guard's slot, where it is. -/
theorem gdOf_ok {ops : Array Oper} {σ : List (Nat × SV)} {o : Oper} {G : Gd} (h : gdOf ops σ o = some G) {st : List AV} {envQ envX : List (Nat × AV)} (hr : Rel σ st envQ envX) :
    (o.guard = none ∧ G = none) ∨ ∃ j w d g, o.guard = some (j, w) ∧ guardSlot ops j = some d ∧ G = some (g, w) ∧ blw st.length g ∧ qevA st envQ g = lk envX d := by
  unfold gdOf at h
  split at h
  · rename_i hg; cases h; exact .inl ⟨hg, rfl⟩
  · rename_i j w hg
    split at h
    · rename_i d hd
      split at h
      · rename_i x hl
        cases h
        have := hr d
        rw [hl] at this
        exact .inr ⟨j, w, d, x, hg, hd, rfl, this.1, this.2⟩
      · cases h
    · cases h

theorem compO_ok (hC : CallOK P call) (hE : ∀ t y, eqs t = true → tab t = some y → y.eqOK) {ops : Array Oper} {o : Oper} {σ : List (Nat × SV)} {n : Nat} {is : List QI} {σ' : List (Nat × SV)} {n' : Nat}
    (hc : compO tab ops o σ n = some (is, σ', n')) {st : List AV} {envQ envX : List (Nat × AV)} {h : NH} {H : AH} {K : List AV → NH → Option R} {r : R} (hn : st.length = n) (hr : Rel σ st envQ envX) (ha : HA h H)
    (hh : qis tab eqs call is st envQ h K = some r) : Came P tab ops (xguard tab (CallS P) ops o) h H K r σ' n' envQ envX := by
  unfold compO at hc
  generalize hq : matsL none (gdSlot ops o) σ n = q at hc
  obtain ⟨is0, σ0, n0⟩ := q
  simp only at hc
  split at hc
  · cases hc
  rename_i G hG
  have mats : ∀ {js : List QI}, is = is0 ++ js → ∃ st0, qis tab eqs call js st0 envQ h K = some r ∧ st0.length = n0 ∧ Rel σ0 st0 envQ envX := by
    intro js he
    rw [he, qis_append] at hh
    obtain ⟨st0, k1, k2, k3, _⟩ := mats_ok hq hn hr hh
    exact ⟨st0, k1, k2, k3⟩
  have real : compReal G o is0 σ0 n0 = some (is, σ', n') → Came P tab ops (xguard tab (CallS P) ops o) h H K r σ' n' envQ envX := by
    intro hc
    -- the places of the guards are told before what is done
    have hpre : ∃ js, is = is0 ++ js := by
      unfold compReal at hc
      split at hc
      split at hc
      · cases hc
      · cases hc; exact ⟨_, rfl⟩
    obtain ⟨js, he⟩ := hpre
    obtain ⟨st0, k1, k2, k3⟩ := mats he
    obtain ⟨js', he', hx⟩ := real_ok (P := P) (ops := ops) (K := K) (r := r) hC hE hc k2 k3 ha
    have : js' = js := List.append_cancel_left (he'.symm.trans he)
    subst this
    obtain ⟨c1, c2⟩ := hx k1
    rcases gdOf_ok hG k3 with ⟨hg, hG0⟩ | ⟨j, w, d, g, hg, hd, hG0, hb, hv⟩
    · obtain ⟨st', h', H', envX', m1, m2, m3, m4, m5, m6, m7⟩ := c1 hG0
      exact ⟨st', h', H', envX', m1, m2, m3, m4, m5, m6, fun K' k => xguard_none hg (m7 K' k)⟩
    · rcases c2 g w hG0 hb with ⟨e, c⟩ | ⟨e, c⟩
      · rw [hv] at e
        obtain ⟨st', h', H', envX', m1, m2, m3, m4, m5, m6, m7⟩ := c d ⟨_, e, rfl⟩
        exact ⟨st', h', H', envX', m1, m2, m3, m4, m5, m6, fun K' k => xguard_true hg hd e (m7 K' k)⟩
      · rw [hv] at e
        rcases e with e | e
        · obtain ⟨st', h', H', envX', m1, m2, m3, m4, m5, m6, m7⟩ := c ((d, .t (.bool (!w))) :: envX) (fun t => by
            rw [lk_cons]; split
            · rename_i e2; rw [← e2, e]
            · rfl)
          exact ⟨st', h', H', envX', m1, m2, m3, m4, m5, m6, fun K' k => xguard_false hg hd e (m7 K' k)⟩
        · obtain ⟨st', h', H', envX', m1, m2, m3, m4, m5, m6, m7⟩ := c envX (fun t => rfl)
          exact ⟨st', h', H', envX', m1, m2, m3, m4, m5, m6, fun K' k => xguard_und hg hd e (m7 K' k)⟩
  split at hc
  · rename_i t d hal hdst
    split at hc
    · cases hc
      obtain ⟨st0, k1, k2, k3⟩ := mats (js := []) (by simp)
      have hg : o.guard = none := by
        rcases gdOf_ok hG k3 with ⟨hg, _⟩ | ⟨j, w, d, g, _, _, hG0, _⟩
        · exact hg
        · cases hG0
      refine ⟨st0, h, H, (d, lk envX t) :: envX, k1, k2, ha, Stay.refl _ _, Nat.le_refl _, k3.set ((k3 t).lk (by rw [lk_cons, if_pos rfl])), fun K' k => xguard_none hg (alias_ok hal ?_)⟩
      rw [stp_eq, hdst]
      exact k
    · exact real hc
  · exact real hc

/-- The same of operations one behind the other. -/
theorem compL_ok (hC : CallOK P call) (hE : ∀ t y, eqs t = true → tab t = some y → y.eqOK) {ops : Array Oper} {envQ : List (Nat × AV)} : ∀ {l : List Oper} {σ : List (Nat × SV)} {n : Nat} {is : List QI} {σ' : List (Nat × SV)} {n' : Nat},
    compL tab ops l σ n = some (is, σ', n') → ∀ {st : List AV} {envX : List (Nat × AV)} {h : NH} {H : AH} {K : List AV → NH → Option R} {r : R}, st.length = n → Rel σ st envQ envX → HA h H →
    qis tab eqs call is st envQ h K = some r → Came P tab ops (fun s K => xops tab (CallS P) ops l s K) h H K r σ' n' envQ envX
  | [], σ, n, is, σ', n', hc, st, envX, h, H, K, r, hn, hr, ha, hh => by
    cases hc
    exact ⟨st, h, H, envX, hh, hn, ha, Stay.refl _ _, Nat.le_refl _, hr, fun K' k => k⟩
  | o :: l, σ, n, is, σ', n', hc, st, envX, h, H, K, r, hn, hr, ha, hh => by
    unfold compL at hc
    split at hc
    · cases hc
    · rename_i is1 σ1 n1 h1
      split at hc
      · cases hc
      · rename_i js σ2 n2 h2
        cases hc
        rw [qis_append] at hh
        obtain ⟨st1, h1', H1, envX1, a1, a2, a3, a4, a5, a6, a7⟩ := compO_ok hC hE h1 hn hr ha hh
        obtain ⟨st2, h2', H2, envX2, b1, b2, b3, b4, b5, b6, b7⟩ := compL_ok hC hE h2 a2 a6 a3 a1
        exact ⟨st2, h2', H2, envX2, b1, b2, b3, a4.trans b4 b5, Nat.le_trans b5 a5, b6, fun K' k => a7 _ (b7 K' k)⟩

/-! ### What is written at a region's end -/

noncomputable def qwr (ws : List (Nat × Operand)) (st : List AV) (e0 e : List (Nat × AV)) (K : List (Nat × AV) → Option R) : Option R :=
  @List.rec (Nat × Operand) (fun _ => List AV → List (Nat × AV) → List (Nat × AV) → (List (Nat × AV) → Option R) → Option R) (fun _ _ e K => K e)
    (fun p _ go st e0 e K => @Prod.rec Nat Operand (fun _ => Option R) (fun t x => qrd x st e0 fun v => go st e0 ((t, v) :: e) K) p) ws st e0 e K

noncomputable def wr (st : List AV) (e0 : List (Nat × AV)) : List (Nat × Operand) → List (Nat × AV) → List (Nat × AV)
  | [], e => e
  | (t, x) :: r, e => wr st e0 r ((t, qev st e0 x) :: e)

theorem qwr_eq (st : List AV) (e0 : List (Nat × AV)) : ∀ (ws : List (Nat × Operand)) (e : List (Nat × AV)) (K : List (Nat × AV) → Option R), qwr ws st e0 e K = K (wr st e0 ws e)
  | [], e, K => rfl
  | (t, x) :: r, e, K => by
    show qrd x st e0 (fun v => qwr r st e0 ((t, v) :: e) K) = _
    rw [qrd_eq, qwr_eq st e0 r]; rfl

theorem wr_lk {st : List AV} {e0 : List (Nat × AV)} {m : Nat → Operand} : ∀ (ks : List Nat) (e : List (Nat × AV)) (t : Nat),
    lk (wr st e0 (ks.map fun t => (t, m t)) e) t = if t ∈ ks then qev st e0 (m t) else lk e t
  | [], e, t => by simp [wr]
  | k :: r, e, t => by
    simp only [List.map_cons, wr]
    rw [wr_lk r, lk_cons]
    by_cases h1 : t ∈ r
    · simp [h1]
    · by_cases h2 : k = t
      · subst h2; simp [h1]
      · rw [if_neg h1, if_neg h2, if_neg (by simp [h1]; exact fun e => h2 e.symm)]

/-- No dead slot is told. -/
def JO (D : Nat) (env : List (Nat × AV)) : Prop := ∀ t, D.testBit t = true → lk env t = .junk

theorem look_in : ∀ (σ : List (Nat × SV)) (t : Nat), look σ t = .here (.tmp t) ∨ ∃ x, (t, x) ∈ σ
  | [], t => .inl rfl
  | (a, v) :: r, t => by
    rw [look_cons]
    split
    · rename_i e; exact .inr ⟨v, by rw [e]; simp⟩
    · rcases look_in r t with h | ⟨x, h⟩
      · exact .inl h
      · exact .inr ⟨x, by simp [h]⟩

theorem wk_dead : ∀ {D m : Nat} {σ : List (Nat × SV)} {t : Nat}, t ∈ wk D m σ → D.testBit t = false
  | D, m, [], t, h => by simp [wk] at h
  | D, m, (a, v) :: r, t, h => by
    simp only [wk] at h
    split at h
    · exact wk_dead h
    · rename_i hb
      simp only [Bool.or_eq_false_iff] at hb
      rcases List.mem_cons.1 h with e | h
      · rw [e]; exact hb.1
      · exact wk_dead h

theorem weak_sat {O : Org} {c : Cx} {env env' : List (Nat × AV)} {H : AH} {a : Act} {w : World} (h : Sat O c ⟨env, H⟩ a w) (he : ∀ t, lk env' t = lk env t ∨ lk env' t = .junk) : Sat O c ⟨env', H⟩ a w :=
  ⟨fun t => by rcases he t with e | e
               · rw [e]; exact h.env t
               · rw [e]; exact .junk _, h.hs, h.size, h.defers, h.ev, h.below⟩

theorem compR_ok (hC : CallOK P call) (hE : ∀ t y, eqs t = true → tab t = some y → y.eqOK) {D : Nat} {ops : Array Oper} {is : List QI} {ws : List (Nat × Operand)} (hc : compR tab D ops = some (is, ws)) {env : List (Nat × AV)} {h : NH} {H : AH} {K : List (Nat × AV) → NH → Option R} {r : R}
    (ha : HA h H) (hj : JO D env) (hh : (qis tab eqs call is [] env h fun st h => qwr ws st env env fun env => K env h) = some r) :
    ∃ env' h' H' envX, K env' h' = some r ∧ HA h' H' ∧ Stay h'.lo H H' ∧ h'.lo ≤ h.lo ∧ JO D env' ∧ (∀ t, lk env' t = lk envX t ∨ lk env' t = .junk) ∧ ∀ K' : St → Prop, K' ⟨envX, H'⟩ → xops tab (CallS P) ops ops.toList ⟨env, H⟩ K' := by
  unfold compR at hc
  split at hc
  · cases hc
  rename_i is0 σ n h0
  generalize hq : matsL none ((wk D 0 σ).map .tmp) σ n = q at hc
  obtain ⟨js, σ', n'⟩ := q
  simp only at hc
  split at hc
  · cases hc
  rename_i hb
  cases hc
  simp only [Bool.and_eq_true, List.all_eq_true, Bool.or_eq_true, List.contains_iff_mem] at hb
  obtain ⟨hb1, hb2⟩ := hb
  rw [qis_append] at hh
  obtain ⟨st1, h1, H1, envX, a1, a2, a3, a4, a5, a6, a7⟩ := compL_ok hC hE h0 rfl (fun t => ⟨trivial, nlk_eq env t⟩) ha hh
  obtain ⟨st2, b1, b2, b3, _⟩ := mats_ok hq a2 a6 a1
  rw [qwr_eq] at b1
  have hval : ∀ t, t ∈ wk D 0 σ → qev st2 env (mapS σ' none n' (.tmp t)) = lk envX t := fun t ht => by
    rw [← b2]; exact mapS_ok (G := none) b3 trivial (x := .tmp t) (hb1 t ht)
  refine ⟨_, h1, H1, envX, b1, a3, a4, a5, fun t ht => ?_, fun t => ?_, a7⟩
  · rw [wr_lk, if_neg (fun hm => by rw [wk_dead hm] at ht; cases ht)]
    exact hj t ht
  · rw [wr_lk]
    split
    · rename_i hm; exact .inl (hval t hm)
    · rename_i hm
      rcases look_in σ' t with e | ⟨x, hx⟩
      · have := b3 t
        rw [e] at this
        exact .inl ((nlk_eq env t).symm.trans this.2)
      · rcases hb2 _ hx with e | e
        · exact .inr (hj t e)
        · exact (hm e).elim

/-! ### Code -/

inductive QC where
  | skip | ret
  | exit (id : Nat)
  | seq (a b : QC)
  | cond (c : Operand) (a b : QC)
  | block (id : Nat) (a : QC)
  | loop (a : QC)
  | reg (is : List QI) (ws : List (Nat × Operand))
  | old (x : Code)
  | choice (ops : Array Oper) (y : QC)

def comp (tab : Tab) (D : Nat) : Code → QC
  | .skip => .skip
  | .ret => .ret
  | .exit id => .exit id
  | .seq x y => (match choiceOf x with | some ops => .choice ops (comp tab D y) | none => .seq (comp tab D x) (comp tab D y))
  | .cond c x y => (match c with | .global g => .old (.cond (.global g) x y) | c => .cond c (comp tab D x) (comp tab D y))
  | .block id x => .block id (comp tab D x)
  | .loop x => .loop (comp tab D x)
  | .region id ops draw =>
    (match draw with
    | true => .old (.region id ops true)
    | false => (match compR tab D ops with | some (is, ws) => .reg is ws | none => .old (.region id ops false)))
  | x => .old x

abbrev RunN := NS → Option (Ex × NS)

noncomputable def rNormal (s : NS) : Option (Ex × NS) := some (.normal, s)
noncomputable def rRet (s : NS) : Option (Ex × NS) := some (.ret, s)
noncomputable def rExit (id : Nat) (s : NS) : Option (Ex × NS) := some (.exit id, s)
noncomputable def rBind (r : Option (Ex × NS)) (f : RunN) : Option (Ex × NS) :=
  @Option.rec (Ex × NS) (fun _ => RunN → Option (Ex × NS)) (fun _ => none)
    (fun p f => @Prod.rec Ex NS (fun _ => RunN → Option (Ex × NS)) (fun e s f => @Ex.rec (fun _ => NS → RunN → Option (Ex × NS)) (fun s f => f s) (fun i s _ => some (.exit i, s)) (fun s _ => some (.ret, s)) e s f) p f) r f
noncomputable def rSeq (_ _ : QC) (f g : RunN) (s : NS) : Option (Ex × NS) := rBind (f s) g
noncomputable def rCond (c : Operand) (_ _ : QC) (f g : RunN) (s : NS) : Option (Ex × NS) :=
  qrd c [] s.env fun v => aBool v (fun b => @Bool.rec (fun _ => Option (Ex × NS)) (g s) (f s) b) none
noncomputable def rBlock1 (id : Nat) (e : Ex) (s : NS) : Option (Ex × NS) :=
  @Ex.rec (fun _ => Nat → NS → Option (Ex × NS)) (fun _ s => some (.normal, s)) (fun i id s => @Bool.rec (fun _ => Option (Ex × NS)) (some (.exit i, s)) (some (.normal, s)) (Nat.beq i id)) (fun _ s => some (.ret, s)) e id s
noncomputable def rBlock (id : Nat) (_ : QC) (f : RunN) (s : NS) : Option (Ex × NS) :=
  @Option.rec (Ex × NS) (fun _ => Nat → Option (Ex × NS)) (fun _ => none) (fun p id => @Prod.rec Ex NS (fun _ => Option (Ex × NS)) (rBlock1 id) p) (f s) id
noncomputable def rTrim (D : Nat) (s : NS) (f : RunN) : Option (Ex × NS) := fL (ntrim s.env D) fun env => f ⟨env, s.h⟩
noncomputable def rLoopN (D : Nat) (f : RunN) (n : Nat) : RunN :=
  @Nat.rec (fun _ => RunN) (fun _ => none)
    (fun _ go s => rTrim D s fun s =>
      @Option.rec (Ex × NS) (fun _ => RunN → Option (Ex × NS)) (fun _ => none)
        (fun p go => @Prod.rec Ex NS (fun _ => RunN → Option (Ex × NS)) (fun e s go => @Ex.rec (fun _ => NS → RunN → Option (Ex × NS)) (fun s go => go s) (fun i s _ => some (.exit i, s)) (fun s _ => some (.ret, s)) e s go) p go) (f s) go) n
noncomputable def rLoop (D fuel : Nat) (_ : QC) (f : RunN) : RunN := rLoopN D f fuel
noncomputable def rReg (tab : Tab) (eqs : TypeId → Bool) (call : CallN) (is : List QI) (ws : List (Nat × Operand)) (s : NS) : Option (Ex × NS) :=
  @NS.rec (fun _ => Option (Ex × NS)) (fun env h => qis tab eqs call is [] env h fun st h => qwr ws st env env fun env => some (.normal, ⟨env, h⟩)) s
noncomputable def rOld (tab : Tab) (eqs : TypeId → Bool) (call : CallN) (D fuel : Nat) (x : Code) (s : NS) : Option (Ex × NS) :=
  match ncode tab eqs call fuel x s with
  | some (e, s') => fL (ntrim s'.env D) fun env => some (e, ⟨env, s'.h⟩)
  | none => none
noncomputable def rChoice (tab : Tab) (eqs : TypeId → Bool) (call : CallN) (D : Nat) (ops : Array Oper) (_ : QC) (f : RunN) (s : NS) : Option (Ex × NS) :=
  match drawOK ops (masks ops) (chOrd ops (masks ops)) [] [] with
  | false => none
  | true =>
    match nchoose tab eqs call ops ⟨s.env, ⟨s.h.hp, s.h.len, s.h.len⟩⟩ with
    | none => none
    | some (s1, s2) =>
      match rTrim D s1 f, rTrim D s2 f with
      | some (.normal, s1'), some (.normal, s2') => (match njoin s.env s.h.lo s.h.len s1' s2' with | some s' => rTrim D s' rNormal | none => none)
      | _, _ => none

noncomputable def qrun (tab : Tab) (eqs : TypeId → Bool) (call : CallN) (D fuel : Nat) : QC → RunN :=
  @QC.rec (fun _ => RunN) rNormal rRet rExit rSeq rCond rBlock (rLoop D fuel) (rReg tab eqs call) (rOld tab eqs call D fuel) (rChoice tab eqs call D)

theorem ntrim_lk2 : ∀ (env : List (Nat × AV)) (m t : Nat), m.testBit t = true → lk (ntrim env m) t = .junk
  | [], m, t, h => rfl
  | (d, v) :: r, m, t, h => by
    show lk (@Bool.rec (fun _ => List (Nat × AV)) ((d, v) :: ntrim r (Nat.lor m (Nat.shiftLeft 1 d))) (ntrim r m) (tbit m d)) t = _
    rw [tbit_eq]
    cases hm : Nat.testBit m d with
    | true => exact ntrim_lk2 r m t h
    | false =>
      show lk ((d, v) :: ntrim r (Nat.lor m (Nat.shiftLeft 1 d))) t = _
      rw [lk_cons, if_neg (fun e => by rw [e, h] at hm; cases hm)]
      refine ntrim_lk2 r _ t ?_
      show (m ||| 1 <<< d).testBit t = true
      rw [Nat.testBit_or, h]; rfl

theorem ntrim_weak (env : List (Nat × AV)) (D t : Nat) : lk (ntrim env D) t = lk env t ∨ lk (ntrim env D) t = .junk := by
  cases h : D.testBit t with
  | true => exact .inr (ntrim_lk2 env D t h)
  | false => exact .inl (ntrim_lk env D t h)

theorem ntrim_JO (env : List (Nat × AV)) (D : Nat) : JO D (ntrim env D) := fun t h => ntrim_lk2 env D t h

/-- What a piece of code says, its dead slots not told. -/
structure DidQ (P : Program) (D : Nat) (x : Code) (s : NS) (H : AH) (e : Ex) (s' : NS) (H' : AH) : Prop where
  did : Did P x s.h s.env H e s' H'
  jo : JO D s'.env

theorem Did.weak {x : Code} {h : NH} {env env' : List (Nat × AV)} {H H' : AH} {e : Ex} {s' : NS} (d : Did P x h env' H e s' H') (hw : ∀ t, lk env' t = lk env t ∨ lk env' t = .junk) : Did P x h env H e s' H' :=
  ⟨d.ha, d.stay, d.lo, fun {O c a w R} hsl hs hR => d.wp hsl (weak_sat hs hw) hR⟩

theorem rBind_some {r : Option (Ex × NS)} {f : RunN} {q : Ex × NS} (h : rBind r f = some q) : (∃ s, r = some (.normal, s) ∧ f s = some q) ∨ (∃ e s, r = some (e, s) ∧ e ≠ .normal ∧ q = (e, s)) := by
  rcases r with _ | ⟨_ | i | _, s⟩
  · cases h
  · exact .inl ⟨s, rfl, h⟩
  · cases h; exact .inr ⟨_, _, rfl, by simp, rfl⟩
  · cases h; exact .inr ⟨_, _, rfl, by simp, rfl⟩

theorem rTrim_eq (D : Nat) (s : NS) (f : RunN) : rTrim D s f = f ⟨ntrim s.env D, s.h⟩ := by unfold rTrim; rw [fL_eq]

/-- The same of a loop's rounds. -/
theorem rLoop_ok {D : Nat} {x : Code} {f : RunN} (hf : ∀ {s : NS} {H : AH} {e : Ex} {s' : NS}, f s = some (e, s') → HA s.h H → JO D s.env → ∃ H', DidQ P D x s H e s' H') :
    ∀ {n : Nat} {s : NS} {H : AH} {e : Ex} {s' : NS}, rLoopN D f n s = some (e, s') → HA s.h H → ∃ H', DidL P x s.h s.env H e s' H' ∧ JO D s'.env
  | 0, s, H, e, s', hh, ha => by cases hh
  | n + 1, s, H, e, s', hh, ha => by
    have hh : rTrim D s (fun s => rBind (f s) (rLoopN D f n)) = some (e, s') := hh
    rw [rTrim_eq] at hh
    rcases rBind_some hh with ⟨s1, h1, h2⟩ | ⟨e1, s1, h1, hne, hq⟩
    · obtain ⟨H1, d1⟩ := hf h1 ha (ntrim_JO _ _)
      have d1' := d1.did.weak (env := s.env) (ntrim_weak s.env D)
      obtain ⟨H2, d2, j2⟩ := rLoop_ok hf h2 d1.did.ha
      refine ⟨H2, ⟨d2.ha, d1'.stay.trans d2.stay d2.lo, Nat.le_trans d2.lo d1'.lo, fun {O c a w R} hsl hs hR => LoopWP.round ?_⟩, j2⟩
      exact d1'.wp (R := Exit.then (LoopWP P x R) R) hsl hs fun c' a' w' hs' => d2.wp hsl hs' hR
    · cases hq
      obtain ⟨H1, d1⟩ := hf h1 ha (ntrim_JO _ _)
      have d1' := d1.did.weak (env := s.env) (ntrim_weak s.env D)
      refine ⟨H1, ⟨d1'.ha, d1'.stay, d1'.lo, fun {O c a w R} hsl hs hR => LoopWP.round ?_⟩, d1.jo⟩
      refine d1'.wp (R := Exit.then (LoopWP P x R) R) hsl hs fun c' a' w' hs' => ?_
      cases e with
      | normal => exact (hne rfl).elim
      | exit i => exact hR c' a' w' hs'
      | ret => exact hR c' a' w' hs'

theorem old_ok (hT : TabOK P tab) (hm : P.follows .mixedOrders = true) (hC : CallOK P call) (hE : ∀ t y, eqs t = true → tab t = some y → y.eqOK) {D fuel : Nat} {x : Code} {s : NS} {H : AH} {e : Ex} {s' : NS}
    (hh : rOld tab eqs call D fuel x s = some (e, s')) (ha : HA s.h H) : ∃ H', DidQ P D x s H e s' H' := by
  unfold rOld at hh
  split at hh
  · rename_i e1 s1 h1
    rw [fL_eq] at hh
    cases hh
    obtain ⟨H1, d1⟩ := ncode_ok hT hm hC hE h1 ha
    exact ⟨H1, ⟨d1.ha, d1.stay, d1.lo, fun {O c a w R} hsl hs hR => d1.wp hsl hs fun c' a' w' hs' => hR c' a' w' (weak_sat hs' (ntrim_weak s1.env D))⟩, ntrim_JO _ _⟩
  · cases hh

theorem qev_opd {env : List (Nat × AV)} {x : Operand} (h : ∀ g, x ≠ .global g) : qev [] env x = opd env x := by
  cases x with
  | global g => exact (h g rfl).elim
  | tmp t => exact nlk_eq env t
  | _ => rfl

theorem rcond_ok (hT : TabOK P tab) (hm : P.follows .mixedOrders = true) (hC : CallOK P call) (hE : ∀ t y, eqs t = true → tab t = some y → y.eqOK) {D fuel : Nat} {o : Operand} (ho : ∀ g, o ≠ .global g) {x y : Code} {f g : RunN}
    (ihx : ∀ {s : NS} {H : AH} {e : Ex} {s' : NS}, f s = some (e, s') → HA s.h H → JO D s.env → ∃ H', DidQ P D x s H e s' H')
    (ihy : ∀ {s : NS} {H : AH} {e : Ex} {s' : NS}, g s = some (e, s') → HA s.h H → JO D s.env → ∃ H', DidQ P D y s H e s' H') {qx qy : QC}
    {s : NS} {H : AH} {e : Ex} {s' : NS} (hh : rCond o qx qy f g s = some (e, s')) (ha : HA s.h H) (hj : JO D s.env) : ∃ H', DidQ P D (.cond o x y) s H e s' H' := by
  unfold rCond at hh
  rw [qrd_eq, qev_opd ho] at hh
  rcases aBool_cases (opd s.env o) (fun b => @Bool.rec (fun _ => Option (Ex × NS)) (g s) (f s) b) none with ⟨b, hb, e1⟩ | ⟨_, e1⟩
  · rw [e1] at hh
    cases b with
    | true =>
      obtain ⟨H1, d1⟩ := ihx hh ha hj
      refine ⟨H1, ⟨d1.did.ha, d1.did.stay, d1.did.lo, fun {O c a w R} hsl hs hR => ?_⟩, d1.jo⟩
      simp only [slotsOK, Bool.and_eq_true] at hsl
      have hra := opd_ok hs.env o
      rw [hb] at hra
      exact wp_cond hra.bool (d1.did.wp hsl.1 hs hR)
    | false =>
      obtain ⟨H1, d1⟩ := ihy hh ha hj
      refine ⟨H1, ⟨d1.did.ha, d1.did.stay, d1.did.lo, fun {O c a w R} hsl hs hR => ?_⟩, d1.jo⟩
      simp only [slotsOK, Bool.and_eq_true] at hsl
      have hra := opd_ok hs.env o
      rw [hb] at hra
      exact wp_cond hra.bool (d1.did.wp hsl.2 hs hR)
  · rw [e1] at hh; cases hh

theorem qrun_ok (hT : TabOK P tab) (hm : P.follows .mixedOrders = true) (hC : CallOK P call) (hE : ∀ t y, eqs t = true → tab t = some y → y.eqOK) {D fuel : Nat} : ∀ {x : Code} {s : NS} {H : AH} {e : Ex} {s' : NS},
    qrun tab eqs call D fuel (comp tab D x) s = some (e, s') → HA s.h H → JO D s.env → ∃ H', DidQ P D x s H e s' H' := by
  intro x
  induction x with
  | skip =>
    intro s H e s' hh ha hj
    cases hh
    exact ⟨H, ⟨ha, Stay.refl _ _, Nat.le_refl _, fun {O c a w R} _ hs hR => wp_skip (hR c a w hs)⟩, hj⟩
  | exit id =>
    intro s H e s' hh ha hj
    cases hh
    exact ⟨H, ⟨ha, Stay.refl _ _, Nat.le_refl _, fun {O c a w R} _ hs hR => wp_exit (hR c a w hs)⟩, hj⟩
  | ret =>
    intro s H e s' hh ha hj
    cases hh
    exact ⟨H, ⟨ha, Stay.refl _ _, Nat.le_refl _, fun {O c a w R} _ hs hR => wp_ret (hR c a w hs)⟩, hj⟩
  | seq x y ihx ihy =>
    intro s H e s' hh ha hj
    unfold comp at hh
    split at hh
    · rename_i ops hx
      obtain ⟨id, rfl⟩ := choiceOf_spec hx
      have hh : rChoice tab eqs call D ops (comp tab D y) (qrun tab eqs call D fuel (comp tab D y)) s = some (e, s') := hh
      unfold rChoice at hh
      split at hh
      · cases hh
      rename_i hdo
      split at hh
      · cases hh
      rename_i s1 s2 hch
      split at hh
      case h_2 => cases hh
      rename_i s1' s2' h1 h2
      split at hh
      case h_2 => cases hh
      rename_i sj hj2
      rw [rTrim_eq] at hh h1 h2
      cases hh
      have hlen := ha.len
      obtain ⟨H1, H2, ⟨a1, t1, o1⟩, ⟨a2, t2, o2⟩, hx⟩ := nchoose_ok hC hE hch (H := H) ⟨ha.len, ha.get⟩
      obtain ⟨H1', q1⟩ := ihy h1 a1 (ntrim_JO _ _)
      obtain ⟨H2', q2⟩ := ihy h2 a2 (ntrim_JO _ _)
      have d1 := q1.did.weak (env := s1.env) (ntrim_weak s1.env D)
      have d2 := q2.did.weak (env := s2.env) (ntrim_weak s2.env D)
      have e1 := d1.lo
      have e2 := d2.lo
      simp only at o1 o2 e1 e2
      obtain ⟨H', j1, j2, j3, j4, j5⟩ := njoin_ok hj2 d1.ha d2.ha (t1.trans d1.stay d1.lo) (t2.trans d2.stay d2.lo) (by omega) (by omega)
      refine ⟨H', ⟨j1, j2, j3, fun {O c a w R} hsl hs hR => ?_⟩, ntrim_JO _ _⟩
      simp only [slotsOK, Bool.and_eq_true] at hsl
      refine wp_seq (regD_ok hT hm (regD_intro (dOf ops _ fun _ => []) (chOrd ops (masks ops)) hdo (hx (fun q => q = ⟨s1.env, H1⟩ ∨ q = ⟨s2.env, H2⟩) (.inl rfl) (.inr rfl))) hsl.1 hs fun q c' a' w' hs' hq => ?_)
      rcases hq with rfl | rfl
      · exact d1.wp hsl.2 hs' fun c'' a'' w'' h'' => hR c'' a'' w'' (weak_sat (j4 h'') (ntrim_weak _ _))
      · exact d2.wp hsl.2 hs' fun c'' a'' w'' h'' => hR c'' a'' w'' (weak_sat (j5 h'') (ntrim_weak _ _))
    · have hh : rBind (qrun tab eqs call D fuel (comp tab D x) s) (qrun tab eqs call D fuel (comp tab D y)) = some (e, s') := hh
      rcases rBind_some hh with ⟨s1, h1, h2⟩ | ⟨e1, s1, h1, hne, hq⟩
      · obtain ⟨H1, d1⟩ := ihx h1 ha hj
        obtain ⟨H2, d2⟩ := ihy h2 d1.did.ha d1.jo
        refine ⟨H2, ⟨d2.did.ha, d1.did.stay.trans d2.did.stay d2.did.lo, Nat.le_trans d2.did.lo d1.did.lo, fun {O c a w R} hsl hs hR => ?_⟩, d2.jo⟩
        simp only [slotsOK, Bool.and_eq_true] at hsl
        exact wp_seq (d1.did.wp hsl.1 hs fun c' a' w' hs' => d2.did.wp hsl.2 hs' hR)
      · cases hq
        obtain ⟨H1, d1⟩ := ihx h1 ha hj
        refine ⟨H1, ⟨d1.did.ha, d1.did.stay, d1.did.lo, fun {O c a w R} hsl hs hR => ?_⟩, d1.jo⟩
        simp only [slotsOK, Bool.and_eq_true] at hsl
        refine wp_seq (d1.did.wp hsl.1 hs fun c' a' w' hs' => ?_)
        cases e with
        | normal => exact (hne rfl).elim
        | exit i => exact hR c' a' w' hs'
        | ret => exact hR c' a' w' hs'
  | cond o x y ihx ihy =>
    intro s H e s' hh ha hj
    cases o with
    | global g => exact old_ok (fuel := fuel) hT hm hC hE hh ha
    | tmp t => exact rcond_ok hT hm hC hE (fuel := fuel) (qx := comp tab D x) (qy := comp tab D y) (by simp) (fun h1 h2 h3 => ihx h1 h2 h3) (fun h1 h2 h3 => ihy h1 h2 h3) hh ha hj
    | const v => exact rcond_ok hT hm hC hE (fuel := fuel) (qx := comp tab D x) (qy := comp tab D y) (by simp) (fun h1 h2 h3 => ihx h1 h2 h3) (fun h1 h2 h3 => ihy h1 h2 h3) hh ha hj
    | func f => exact rcond_ok hT hm hC hE (fuel := fuel) (qx := comp tab D x) (qy := comp tab D y) (by simp) (fun h1 h2 h3 => ihx h1 h2 h3) (fun h1 h2 h3 => ihy h1 h2 h3) hh ha hj
  | block id x ih =>
    intro s H e s' hh ha hj
    have hh : @Option.rec (Ex × NS) (fun _ => Nat → Option (Ex × NS)) (fun _ => none) (fun p id => @Prod.rec Ex NS (fun _ => Option (Ex × NS)) (rBlock1 id) p) (qrun tab eqs call D fuel (comp tab D x) s) id = some (e, s') := hh
    generalize hr : qrun tab eqs call D fuel (comp tab D x) s = r at hh
    rcases r with _ | ⟨_ | i | _, s1⟩
    · cases hh
    · cases hh
      obtain ⟨H1, d1⟩ := ih hr ha hj
      exact ⟨H1, ⟨d1.did.ha, d1.did.stay, d1.did.lo, fun {O c a w R} hsl hs hR => wp_block (d1.did.wp hsl hs fun c' a' w' hs' => hR c' a' w' hs')⟩, d1.jo⟩
    · obtain ⟨H1, d1⟩ := ih hr ha hj
      have hh : @Bool.rec (fun _ => Option (Ex × NS)) (some (.exit i, s1)) (some (.normal, s1)) (Nat.beq i id) = some (e, s') := hh
      cases hb : Nat.beq i id with
      | true =>
        rw [hb] at hh
        cases hh
        refine ⟨H1, ⟨d1.did.ha, d1.did.stay, d1.did.lo, fun {O c a w R} hsl hs hR => wp_block (d1.did.wp hsl hs fun c' a' w' hs' => ?_)⟩, d1.jo⟩
        simp only [Ex.out, Exit.inBlock]
        rw [if_pos (Nat.eq_of_beq_eq_true hb)]
        exact hR c' a' w' hs'
      | false =>
        rw [hb] at hh
        cases hh
        refine ⟨H1, ⟨d1.did.ha, d1.did.stay, d1.did.lo, fun {O c a w R} hsl hs hR => wp_block (d1.did.wp hsl hs fun c' a' w' hs' => ?_)⟩, d1.jo⟩
        simp only [Ex.out, Exit.inBlock]
        rw [if_neg (fun e => by subst e; simp at hb)]
        exact hR c' a' w' hs'
    · cases hh
      obtain ⟨H1, d1⟩ := ih hr ha hj
      exact ⟨H1, ⟨d1.did.ha, d1.did.stay, d1.did.lo, fun {O c a w R} hsl hs hR => wp_block (d1.did.wp hsl hs fun c' a' w' hs' => hR c' a' w' hs')⟩, d1.jo⟩
  | loop x ih =>
    intro s H e s' hh ha hj
    have hh : rLoopN D (qrun tab eqs call D fuel (comp tab D x)) fuel s = some (e, s') := hh
    obtain ⟨H1, d1, j1⟩ := rLoop_ok (P := P) (x := x) (fun h1 h2 h3 => ih h1 h2 h3) hh ha
    exact ⟨H1, ⟨d1.ha, d1.stay, d1.lo, fun {O c a w R} hsl hs hR => LoopWP.wp (d1.wp hsl hs hR)⟩, j1⟩
  | region id ops draw =>
    intro s H e s' hh ha hj
    cases draw with
    | true => exact old_ok (fuel := fuel) hT hm hC hE hh ha
    | false =>
      simp only [comp] at hh
      cases hc : compR tab D ops with
      | none => rw [hc] at hh; exact old_ok (fuel := fuel) hT hm hC hE hh ha
      | some p =>
        obtain ⟨is, ws⟩ := p
        rw [hc] at hh
        obtain ⟨env, h⟩ := s
        have hh : (qis tab eqs call is [] env h fun st h => qwr ws st env env fun env => some (Ex.normal, (⟨env, h⟩ : NS))) = some (e, s') := hh
        obtain ⟨env', h', H', envX, k1, k2, k3, k4, k5, k6, k7⟩ := compR_ok (R := Ex × NS) (K := fun env h => some (Ex.normal, (⟨env, h⟩ : NS))) hC hE hc ha hj hh
        cases k1
        refine ⟨H', ⟨k2, k3, k4, fun {O c a w R} hsl hs hR => wp_region_list (xops_ok hT (k7 (fun q => q = ⟨envX, H'⟩) rfl) hsl hs fun q c' a' w' hs' hq => ?_)⟩, k5⟩
        subst hq
        exact hR c' a' w' (weak_sat hs' k6)
  | _ => intro s H e s' hh ha hj; exact old_ok (fuel := fuel) hT hm hC hE hh ha

end
end Go.Proofs.YtnjmeadmkbkikaaGreatDoor

namespace Go.Proofs.YtnjmeadmkbkikaaGreatDoor
open Go.RowKit
set_option linter.unusedVariables false
set_option linter.unusedSimpArgs false

/-! ### Their code -/

/-- The closure that is laid and deferred: its slot, its function, what it captures. -/
def dfOps : List Oper → Option (Nat × FuncId × List Operand)
  | [o1, o2] =>
    match o1.guard, o1.dst, o1.op, o2.guard, o2.dst, o2.op with
    | none, some t, .makeFunc (.func g) first caps, none, none, .defer c =>
      (match first.toList, c.callee, c.args.toList with
      | [], .value (.tmp u), [] => (match Nat.beq t u with | true => some (t, g, caps.toList) | false => none)
      | _, _, _ => none)
    | _, _, _, _, _, _ => none
  | _ => none

structure DF where
  a : List Code
  t : Nat
  g : FuncId
  caps : List Operand
  y : Code

/-- Is it the region that defers? -/
def dfReg : Code → Option (Nat × FuncId × List Operand)
  | .region _ ops false => dfOps ops.toList
  | _ => none

/-- What runs ahead of the region that defers, and what behind it. -/
def splitD : Code → Option DF
  | .seq x y => (match dfReg x with
    | some (t, g, caps) => some ⟨[], t, g, caps, y⟩
    | none => (match splitD y with | some d => some ⟨x :: d.a, d.t, d.g, d.caps, d.y⟩ | none => none))
  | _ => none

def spine : List Code → Code → Code
  | [], z => z
  | a :: r, z => .seq a (spine r z)

/-- What is asked first: is there a panic? -/
def rcOps : List Oper → Option (Nat × Nat)
  | [o1, o2] =>
    match o1.guard, o1.dst, o1.op, o2.guard, o2.dst, o2.op with
    | none, some d0, .call c, none, some d1, .assign (.tmp u) =>
      (match c.callee, c.args.toList with
      | .builtin .recover, [] => (match Nat.beq d0 u with | true => some (d0, d1) | false => none)
      | _, _ => none)
    | _, _, _, _, _, _ => none
  | _ => none

structure RF where
  d0 : Nat
  d1 : Nat
  y : Code

def splitR : Code → Option RF
  | .seq (.region _ ops false) y => (match rcOps ops.toList with | some (d0, d1) => some ⟨d0, d1, y⟩ | none => none)
  | _ => none

theorem dfOps_spec {l : List Oper} {t : Nat} {g : FuncId} {caps : List Operand} (h : dfOps l = some (t, g, caps)) :
    ∃ o1 o2 first cps c, l = [o1, o2] ∧ o1.guard = none ∧ o1.dst = some t ∧ o1.op = .makeFunc (.func g) first cps ∧ o2.guard = none ∧ o2.dst = none ∧ o2.op = .defer c ∧ first.toList = [] ∧ cps.toList = caps ∧ c.callee = .value (.tmp t) ∧ c.args.toList = [] := by
  unfold dfOps at h
  split at h
  · rename_i o1 o2
    split at h
    · rename_i t' g' first cps c e1 e2 e3 e4 e5 e6
      split at h
      · rename_i u f1 f2 f3
        split at h
        · rename_i hb
          cases h
          obtain rfl := Nat.eq_of_beq_eq_true hb
          exact ⟨o1, o2, first, cps, c, rfl, e1, e2, e3, e4, e5, e6, f1, rfl, f2, f3⟩
        · cases h
      · cases h
    · cases h
  · cases h

theorem dfReg_spec {x : Code} {q : Nat × FuncId × List Operand} (h : dfReg x = some q) : ∃ id ops, x = .region id ops false ∧ dfOps ops.toList = some q := by
  unfold dfReg at h
  split at h
  · exact ⟨_, _, rfl, h⟩
  · cases h

theorem splitD_spec : ∀ {x : Code} {d : DF}, splitD x = some d → ∃ id ops, x = spine d.a (.seq (.region id ops false) d.y) ∧ dfOps ops.toList = some (d.t, d.g, d.caps) := by
  intro x
  induction x with
  | seq x y ihx ihy =>
    intro d h
    unfold splitD at h
    split at h
    · rename_i hd
      cases h
      obtain ⟨id, ops, rfl, ho⟩ := dfReg_spec hd
      exact ⟨id, ops, rfl, ho⟩
    · split at h
      · rename_i d' hd
        cases h
        obtain ⟨id, ops, e, ho⟩ := ihy hd
        exact ⟨id, ops, by rw [e]; rfl, ho⟩
      · cases h
  | _ => intro d h; cases h

theorem slots_spine {n : Nat} {z : Code} : ∀ {l : List Code}, slotsOK n (spine l z) = true → (∀ x ∈ l, slotsOK n x = true) ∧ slotsOK n z = true
  | [], h => ⟨fun _ hx => (List.not_mem_nil hx).elim, h⟩
  | a :: r, h => by
    simp only [spine, slotsOK, Bool.and_eq_true] at h
    obtain ⟨h1, h2⟩ := slots_spine h.2
    refine ⟨fun x hx => ?_, h2⟩
    rcases List.mem_cons.1 hx with rfl | hx
    · exact h.1
    · exact h1 x hx

theorem rcOps_spec {l : List Oper} {d0 d1 : Nat} (h : rcOps l = some (d0, d1)) :
    ∃ o1 o2 c, l = [o1, o2] ∧ o1.guard = none ∧ o1.dst = some d0 ∧ o1.op = .call c ∧ o2.guard = none ∧ o2.dst = some d1 ∧ o2.op = .assign (.tmp d0) ∧ c.callee = .builtin .recover ∧ c.args.toList = [] := by
  unfold rcOps at h
  split at h
  · rename_i o1 o2
    split at h
    · rename_i c d1' u e1 e2 e3 e4 e5 e6
      split at h
      · rename_i f1 f2
        split at h
        · rename_i hb
          cases h
          obtain rfl := Nat.eq_of_beq_eq_true hb
          exact ⟨o1, o2, c, rfl, e1, e2, e3, e4, e5, e6, f1, f2⟩
        · cases h
      · cases h
    · cases h
  · cases h

theorem splitR_spec {x : Code} {d : RF} (h : splitR x = some d) : ∃ id ops, x = .seq (.region id ops false) d.y ∧ rcOps ops.toList = some (d.d0, d.d1) := by
  unfold splitR at h
  split at h
  · split at h
    · rename_i hd
      cases h
      exact ⟨_, _, rfl, hd⟩
    · cases h
  · cases h

theorem arr_nil {α : Type} {a : Array α} (h : a.toList = []) : a = #[] := by cases a; simp_all

section
variable {P : Program} {tab : Tab} {eqs : TypeId → Bool} {call : CallN}

/-- A frame's state where its function begins. -/
theorem sat_start {N B : Nat} {w : World} {c : Cx} {H : AH} {args : List AV} {vs : Array Value} (hs : HS w c H B) (hle : args.length ≤ N) (hl : vs.size = args.length) (hr : ∀ (i : Nat) a v, args[i]? = some a → vs[i]? = some v → RA w c H a v) :
    Sat ⟨N, B, w, c, H, []⟩ c ⟨args0 0 args, H⟩ { tmps := vs ++ Array.replicate (N - vs.size) undef, defers := [] } w := by
  refine ⟨fun t => ?_, hs, by simp; omega, rfl, Ev.refl _ _ _, Below.refl _ _⟩
  rw [args0_lk, if_pos (Nat.zero_le _), Nat.sub_zero]
  simp only [Array.getD_eq_getD_getElem?, List.getD_eq_getElem?_getD]
  by_cases ht : t < args.length
  · rw [Array.getElem?_append_left (by omega)]
    obtain ⟨v, hv⟩ := arr_get (a := vs) (i := t) (by omega)
    have ha : args[t]? = some args[t] := List.getElem?_eq_getElem ht
    rw [hv, ha]
    exact hr t _ v ha hv
  · rw [List.getElem?_eq_none (by omega)]
    exact .junk _

/-- Pieces of code one behind the other, each of which ends in order. -/
noncomputable def qruns (tab : Tab) (eqs : TypeId → Bool) (call : CallN) (D fuel : Nat) : List QC → NS → Option NS
  | [], s => some s
  | a :: r, s => match qrun tab eqs call D fuel a s with
    | some (.normal, s1) => qruns tab eqs call D fuel r s1
    | _ => none

/-- What such a row of pieces says. -/
structure DidSp (P : Program) (D : Nat) (l : List Code) (s : NS) (H : AH) (s' : NS) (H' : AH) : Prop where
  ha : HA s'.h H'
  stay : Stay s'.h.lo H H'
  lo : s'.h.lo ≤ s.h.lo
  jo : JO D s'.env
  wp : ∀ {O : Org} {c : Cx} {a : Act} {w : World} {z : Code} {R : Exit → Act → World → Prop}, (∀ x ∈ l, slotsOK O.N x = true) → Sat O c ⟨s.env, H⟩ a w → (∀ c' a' w', Sat O c' ⟨s'.env, H'⟩ a' w' → z.wp P R a' w') → (spine l z).wp P R a w

theorem qruns_ok (hT : TabOK P tab) (hm : P.follows .mixedOrders = true) (hC : CallOK P call) (hE : ∀ t y, eqs t = true → tab t = some y → y.eqOK) {D fuel : Nat} : ∀ {l : List Code} {s : NS} {H : AH} {s' : NS},
    qruns tab eqs call D fuel (l.map (comp tab D)) s = some s' → HA s.h H → JO D s.env → ∃ H', DidSp P D l s H s' H'
  | [], s, H, s', hh, ha, hj => by
    cases hh
    exact ⟨H, ha, Stay.refl _ _, Nat.le_refl _, hj, fun _ hs hR => hR _ _ _ hs⟩
  | x :: l, s, H, s', hh, ha, hj => by
    rw [List.map_cons] at hh
    unfold qruns at hh
    split at hh
    · rename_i s1 h1
      obtain ⟨H1, q1⟩ := qrun_ok hT hm hC hE h1 ha hj
      obtain ⟨H2, q2⟩ := qruns_ok hT hm hC hE hh q1.did.ha q1.jo
      exact ⟨H2, q2.ha, q1.did.stay.trans q2.stay q2.lo, Nat.le_trans q2.lo q1.did.lo, q2.jo, fun hsl hs hR => wp_seq (q1.did.wp (hsl _ List.mem_cons_self) hs fun c' a' w' hs' => q2.wp (fun y hy => hsl y (List.mem_cons_of_mem _ hy)) hs' hR)⟩
    · cases hh

/-- The closure, where nothing panics. -/
theorem closure_ok (hT : TabOK P tab) (hm : P.follows .mixedOrders = true) (hC : CallOK P call) (hE : ∀ t y, eqs t = true → tab t = some y → y.eqOK) {g : FuncId} {fg : Func} {xg : Code} (hf : P.funcs[g]? = some fg) (hb : fg.body = some xg)
    {q : RF} (hsp : splitR xg = some q) (hres : fg.results.toList = []) (hso : slotsOK fg.ntmps xg = true) {D fuel : Nat} {caps : List AV} (hle : caps.length ≤ fg.ntmps) {h : NH} {H : AH} (ha : HA h H) {e : Ex} {s' : NS}
    (hrun : rTrim D ⟨(q.d1, .t .nili) :: (q.d0, .t .nili) :: args0 0 caps, h⟩ (qrun tab eqs call D fuel (comp tab D q.y)) = some (e, s')) (hne : ∀ i, e ≠ .exit i) :
    ∃ H', HA s'.h H' ∧ Stay s'.h.lo H H' ∧ s'.h.lo ≤ h.lo ∧ ∀ {B : Nat} {c : Cx} {w : World} {vs : Array Value}, HS w c H B → vs.size = caps.length → (∀ (i : Nat) a v, caps[i]? = some a → vs[i]? = some v → RA w c H a v) →
      CallsD P g vs .returning w fun e u' w' => u' = .returning ∧ ∃ v, e = .returned v ∧ ∃ c', HS w' c' H' B ∧ Ev w c H w' c' H' ∧ Below B w w' := by
  obtain ⟨id, ops, rfl, hops⟩ := splitR_spec hsp
  obtain ⟨o1, o2, cl, hl, a1, a2, a3, b1, b2, b3, c1, c2⟩ := rcOps_spec hops
  rw [rTrim_eq] at hrun
  generalize hG : (q.d1, AV.t .nili) :: (q.d0, AV.t .nili) :: args0 0 caps = E at hrun
  have hrun : qrun tab eqs call D fuel (comp tab D q.y) ⟨ntrim E D, h⟩ = some (e, s') := hrun
  obtain ⟨H1, q1⟩ := qrun_ok hT hm hC hE hrun ha (ntrim_JO E D)
  have d1 : Did P q.y h E H e s' H1 := q1.did.weak (ntrim_weak E D)
  subst hG
  refine ⟨H1, d1.ha, d1.stay, d1.lo, fun {B c w vs} hs hvl hvr => ?_⟩
  simp only [slotsOK, Bool.and_eq_true] at hso
  obtain ⟨hso1, hso2⟩ := hso
  rw [hl] at hso1
  simp only [List.all_cons, List.all_nil, Bool.and_eq_true, Bool.and_true] at hso1
  refine callsD_of_wpS hf hb fun c₀ cs hmode => wpS_seq (wpS_region ?_)
  have hsz : ops.size = 2 := by rw [← Array.length_toList, hl]; rfl
  have h0 : ops[0]? = some o1 := by rw [← Array.getElem?_toList, hl]; rfl
  have h1 : ops[1]? = some o2 := by rw [← Array.getElem?_toList, hl]; rfl
  have s0 := sat_start (N := fg.ntmps) hs hle hvl hvr
  have s1 := s0.putd (some q.d0) (by intro k hk; cases hk; exact dstOK_spec hso1.1 _ a2) (v := .t .nili) (val := .nilIface) (.t _ _ .nili)
  have e1 := opd_ok s1.env (.tmp q.d0)
  have s2 := s1.putd (some q.d1) (by intro k hk; cases hk; exact dstOK_spec hso1.2 _ b2) e1
  have hlk : opd (putd (some q.d0) (.t .nili) (args0 0 caps)) (.tmp q.d0) = .t .nili := by
    show lk ((q.d0, .t .nili) :: args0 0 caps) q.d0 = _
    rw [lk_cons, if_pos rfl]
  rw [hlk] at s2
  have hrec : ∀ w : World, (execOp (Act.eval { tmps := vs ++ Array.replicate (fg.ntmps - vs.size) undef, defers := [] }) o1).run P w = .ok .recover w := fun w => by
    unfold execOp
    rw [a3]
    simp only [resolve, c1, pure_bind, invoke]
    rfl
  have hrd : recoverD (c₀ :: cs) = none := by simp [recoverD, hmode]
  rw [hsz]
  show wpOpsS P ops _ [0, 1] _ (c₀ :: cs) w
  have hw1 : ∀ y, Region.wanted o1 y = true := fun y => by simp [Region.wanted, a1]
  have hw2 : ∀ y, Region.wanted o2 y = true := fun y => by simp [Region.wanted, b1]
  simp only [wpOpsS, h0, h1, hw1, hw2, if_true, hrec, hrd]
  have hasg : ∀ (a : Act) (w : World), (execOp a.eval o2).run P w = .ok (.value (a.eval (.tmp q.d0))) w := fun a w => by
    unfold execOp; rw [b3]; rfl
  simp only [hasg, Oper.upon_value, a2, b2]
  refine wpS_of_wp (d1.wp (O := ⟨fg.ntmps, B, w, c, H, []⟩) hso2 s2 fun c' a' w' hs' => ?_)
  have hx := nres_ok (tab := tab) (env := s'.env) (H := H1) (l := []) (vs := []) rfl (fun q => True) trivial
  obtain ⟨l2, val, r1, r2, _⟩ := results_ok (fn := fg) hT hs' (by rw [hres]; exact hx)
  have hc : ({ c₀ with mode := .returning } : Frame) = c₀ := by rw [← hmode]
  cases e with
  | exit id => exact (hne id rfl).elim
  | normal => exact ⟨hs'.defers, .returning, by rw [hc], val, r1, rfl, val, rfl, c', hs'.hs, hs'.ev, hs'.below⟩
  | ret => exact ⟨hs'.defers, .returning, by rw [hc], val, r1, rfl, val, rfl, c', hs'.hs, hs'.ev, hs'.below⟩

end
end Go.Proofs.YtnjmeadmkbkikaaGreatDoor

namespace Go.Proofs.YtnjmeadmkbkikaaGreatDoor
open Go.RowKit
set_option linter.unusedVariables false
set_option linter.unusedSimpArgs false

/-! ### Slots that outlive a region -/

def slotBit : Operand → Nat
  | .tmp t => Nat.shiftLeft 1 t
  | _ => 0

def rdBits : List Operand → Nat
  | [] => 0
  | x :: r => Nat.lor (slotBit x) (rdBits r)

/-- Of a region: what it reads before it wrote it ('e'), where 'm' is what was written and 'a' all that may be asked. -/
def expo (ops : Array Oper) (a : Nat) : List Oper → Nat → Nat → Nat
  | [], m, e => e
  | o :: r, m, e =>
    let rd := Nat.lor (rdBits (opnds o.op)) (rdBits (gdSlot ops o))
    let e := Nat.lor e (Nat.land rd (Nat.xor a (Nat.land a m)))
    let m := (match o.dst with | some d => Nat.lor m (Nat.shiftLeft 1 d) | none => m)
    expo ops a r m e

def liveC (a : Nat) : Code → Nat
  | .seq x y => Nat.lor (liveC a x) (liveC a y)
  | .cond c x y => Nat.lor (slotBit c) (Nat.lor (liveC a x) (liveC a y))
  | .block _ x => liveC a x
  | .loop x => liveC a x
  | .region _ ops _ => expo ops a ops.toList 0 0
  | _ => 0

def liveR : List ResultVar → Nat
  | [] => 0
  | .tmp t :: r => Nat.lor (Nat.shiftLeft 1 t) (liveR r)
  | .cell t _ :: r => Nat.lor (Nat.shiftLeft 1 t) (liveR r)

def deadOf (n : Nat) (res : List ResultVar) (x : Code) : Nat :=
  let a := Nat.sub (Nat.shiftLeft 1 n) 1
  Nat.xor a (Nat.land a (Nat.lor (liveC a x) (liveR res)))

structure QF where
  D : Nat
  code : QC
  res : List ResultVar
  n : Nat

noncomputable def qof (P : Program) (tab : Tab) (f : FuncId) : Option QF :=
  match P.funcs[f]? with
  | none => none
  | some fn =>
    match fn.body with
    | none => none
    | some x =>
      match !(fn.name == "runtime.NumGoroutine") && slotsOK fn.ntmps x with
      | false => none
      | true => fN (deadOf fn.ntmps fn.results.toList x) fun D => some ⟨D, comp tab D x, fn.results.toList, fn.ntmps⟩

noncomputable def qend (tab : Tab) (res : List ResultVar) (e : Ex) (s : NS) : Option (AV × NH) :=
  match e with
  | .exit _ => none
  | _ => (match nres tab s.env s.h.hp.get res with | some l => some (tupOf l, s.h) | none => none)

noncomputable def qgo (tab : Tab) (eqs : TypeId → Bool) (call : CallN) (fuel : Nat) (args : List AV) (h : NH) (q : QF) : Option (AV × NH) :=
  @QF.rec (fun _ => Option (AV × NH)) (fun D code res n => NCk (Nat.ble args.length n) (NOpt (rTrim D ⟨args0 0 args, h⟩ (qrun tab eqs call D fuel code)) fun p => @Prod.rec Ex NS (fun _ => Option (AV × NH)) (qend tab res) p)) q

/-- A function that defers a closure. -/
structure QD where
  D : Nat
  a : List QC
  t : Nat
  caps : List Operand
  y : QC
  res : List ResultVar
  n : Nat
  Dg : Nat
  d0 : Nat
  d1 : Nat
  yg : QC
  ng : Nat

def isNilL {α : Type} : List α → Bool
  | [] => true
  | _ => false

noncomputable def qofD (P : Program) (tab : Tab) (f : FuncId) : Option QD :=
  match P.funcs[f]? with
  | none => none
  | some fn =>
    match fn.body with
    | none => none
    | some x =>
      match splitD x with
      | none => none
      | some d =>
        match P.funcs[d.g]? with
        | none => none
        | some fg =>
          match fg.body with
          | none => none
          | some xg =>
            match splitR xg with
            | none => none
            | some q =>
              match !(fn.name == "runtime.NumGoroutine") && slotsOK fn.ntmps x && !(fg.name == "runtime.NumGoroutine") && slotsOK fg.ntmps xg && isNilL fg.results.toList with
              | false => none
              | true => fN (deadOf fn.ntmps fn.results.toList x) fun D => fN (deadOf fg.ntmps [] xg) fun Dg =>
                some ⟨D, d.a.map (comp tab D), d.t, d.caps, comp tab D d.y, fn.results.toList, fn.ntmps, Dg, q.d0, q.d1, comp tab Dg q.y, fg.ntmps⟩

noncomputable def qgoD3 (tab : Tab) (eqs : TypeId → Bool) (call : CallN) (fuel : Nat) (q : QD) (cs : List AV) (e : Ex) (s3 : NS) : Option (AV × NH) :=
  match e with
  | .exit _ => none
  | _ =>
    match rTrim q.Dg ⟨(q.d1, .t .nili) :: (q.d0, .t .nili) :: args0 0 cs, s3.h⟩ (qrun tab eqs call q.Dg fuel q.yg) with
    | none => none
    | some (e4, s4) =>
      match e4 with
      | .exit _ => none
      | _ => (match nres tab s3.env s4.h.hp.get q.res with | some l => some (tupOf l, s4.h) | none => none)

noncomputable def qgoD (tab : Tab) (eqs : TypeId → Bool) (call : CallN) (fuel : Nat) (args : List AV) (h : NH) (q : QD) : Option (AV × NH) :=
  NCk (Nat.ble args.length q.n)
  (match qruns tab eqs call q.D fuel q.a ⟨ntrim (args0 0 args) q.D, h⟩ with
  | some s1 => fAs (q.caps.map (nopd s1.env)) fun cs => NCk (Nat.ble cs.length q.ng)
    (match qrun tab eqs call q.D fuel q.y ⟨(q.t, .junk) :: s1.env, s1.h⟩ with
    | some (e, s3) => qgoD3 tab eqs call fuel q cs e s3
    | none => none)
  | _ => none)

/-- A call: of what the model itself knows, or of a function's body. -/
noncomputable def qcall (P : Program) (tab : Tab) (eqs : TypeId → Bool) (ext : FuncId → List AV → Option AV) (k : Nat) : CallN :=
  @Nat.rec (fun _ => CallN) (fun _ _ _ => none)
    (fun k go f args h => @Option.rec AV (fun _ => Option (AV × NH)) (@Option.rec QD (fun _ => Option (AV × NH)) (NOpt (qof P tab f) (qgo tab eqs go k args h)) (qgoD tab eqs go k args h) (qofD P tab f)) (fun v => some (v, h)) (ext f args)) k

section
variable {P : Program} {tab : Tab} {eqs : TypeId → Bool} {call : CallN}

theorem qof_spec {f : FuncId} {q : QF} (h : qof P tab f = some q) : ∃ fn x, P.funcs[f]? = some fn ∧ fn.body = some x ∧ (fn.name == "runtime.NumGoroutine") = false ∧ slotsOK fn.ntmps x = true ∧ ∃ D, q = ⟨D, comp tab D x, fn.results.toList, fn.ntmps⟩ := by
  unfold qof at h
  split at h
  · cases h
  · rename_i fn hf
    split at h
    · cases h
    · rename_i x hb
      split at h
      · cases h
      · rename_i hc
        rw [fN_eq] at h
        cases h
        simp only [Bool.and_eq_true, Bool.not_eq_true'] at hc
        exact ⟨fn, x, hf, hb, hc.1, hc.2, _, rfl⟩

theorem qend_spec {res : List ResultVar} {e : Ex} {s : NS} {v : AV} {h' : NH} (h : qend tab res e s = some (v, h')) : (∀ i, e ≠ .exit i) ∧ ∃ l, nres tab s.env s.h.hp.get res = some l ∧ v = tupOf l ∧ h' = s.h := by
  unfold qend at h
  split at h
  · cases h
  · rename_i hne
    split at h
    · rename_i l hl
      cases h
      exact ⟨fun i e => hne i e, l, hl, rfl, rfl⟩
    · cases h

theorem qgo_ok (hT : TabOK P tab) (hm : P.follows .mixedOrders = true) (hC : CallOK P call) (hE : ∀ t y, eqs t = true → tab t = some y → y.eqOK) {fuel : Nat} {f : FuncId} {q : QF} (hq : qof P tab f = some q)
    {args : List AV} {h : NH} {v : AV} {h' : NH} (hh : qgo tab eqs call fuel args h q = some (v, h')) {H : AH} (ha : HA h H) :
    ∃ H', HA h' H' ∧ Stay h'.lo H H' ∧ h'.lo ≤ h.lo ∧ CallS P f args H (fun r H'' => r = v ∧ H'' = H') := by
  obtain ⟨fn, x, hf, hb, hn, hso, D, rfl⟩ := qof_spec hq
  have hh : NCk (Nat.ble args.length fn.ntmps) (NOpt (rTrim D ⟨args0 0 args, h⟩ (qrun tab eqs call D fuel (comp tab D x))) fun p => @Prod.rec Ex NS (fun _ => Option (AV × NH)) (qend tab fn.results.toList) p) = some (v, h') := hh
  rw [nck_iff, nopt_iff, rTrim_eq] at hh
  obtain ⟨hle, ⟨e, s⟩, h1, h2⟩ := hh
  have hle := Nat.le_of_ble_eq_true hle
  obtain ⟨hne, l, h3, rfl, rfl⟩ := qend_spec h2
  obtain ⟨H1, q1⟩ := qrun_ok hT hm hC hE h1 ha (ntrim_JO _ _)
  have d1 := q1.did.weak (env := args0 0 args) (ntrim_weak _ D)
  refine ⟨H1, d1.ha, d1.stay, d1.lo, fun B c w vs hs hl hr => .inl ⟨⟨fn, hf, by rw [hb]; rfl, hn⟩, calls_of_wp hf hb ?_⟩⟩
  let O : Org := ⟨fn.ntmps, B, w, c, H, []⟩
  have hs0 : Sat O c ⟨args0 0 args, H⟩ { tmps := vs ++ Array.replicate (fn.ntmps - vs.size) undef, defers := [] } w := by
    refine ⟨fun t => ?_, hs, by simp [O]; omega, rfl, Ev.refl _ _ _, Below.refl _ _⟩
    rw [args0_lk, if_pos (Nat.zero_le _), Nat.sub_zero]
    simp only [Array.getD_eq_getD_getElem?, List.getD_eq_getElem?_getD]
    by_cases ht : t < args.length
    · rw [Array.getElem?_append_left (by omega)]
      obtain ⟨v, hv⟩ := arr_get (a := vs) (i := t) (by omega)
      have ha : args[t]? = some args[t] := List.getElem?_eq_getElem ht
      rw [hv, ha]
      exact hr t _ v ha hv
    · rw [List.getElem?_eq_none (by omega)]
      exact .junk _
  refine d1.wp (O := O) hso hs0 fun c' a' w' hs' => ?_
  rw [d1.ha.get] at h3
  have hx := nres_ok h3 (fun q => q = l) rfl
  obtain ⟨l2, val, r1, r2, k⟩ := results_ok hT hs' hx
  subst k
  cases e with
  | exit id => exact (hne id rfl).elim
  | normal => exact ⟨hs'.defers, val, r1, val, c', _, H1, rfl, r2, hs'.hs, hs'.ev, hs'.below, rfl, rfl⟩
  | ret => exact ⟨hs'.defers, val, r1, val, c', _, H1, rfl, r2, hs'.hs, hs'.ev, hs'.below, rfl, rfl⟩

theorem qofD_spec {f : FuncId} {q : QD} (h : qofD P tab f = some q) : ∃ fn x d fg xg r, P.funcs[f]? = some fn ∧ fn.body = some x ∧ splitD x = some d ∧ P.funcs[d.g]? = some fg ∧ fg.body = some xg ∧ splitR xg = some r ∧
    (fn.name == "runtime.NumGoroutine") = false ∧ slotsOK fn.ntmps x = true ∧ (fg.name == "runtime.NumGoroutine") = false ∧ slotsOK fg.ntmps xg = true ∧ fg.results.toList = [] ∧
    ∃ D Dg, q = ⟨D, d.a.map (comp tab D), d.t, d.caps, comp tab D d.y, fn.results.toList, fn.ntmps, Dg, r.d0, r.d1, comp tab Dg r.y, fg.ntmps⟩ := by
  unfold qofD at h
  split at h
  · cases h
  rename_i fn hf
  split at h
  · cases h
  rename_i x hb
  split at h
  · cases h
  rename_i d hd
  split at h
  · cases h
  rename_i fg hg
  split at h
  · cases h
  rename_i xg hxg
  split at h
  · cases h
  rename_i r hr
  split at h
  · cases h
  rename_i hc
  simp only [fN_eq] at h
  cases h
  simp only [Bool.and_eq_true, Bool.not_eq_true'] at hc
  obtain ⟨⟨⟨⟨h1, h2⟩, h3⟩, h4⟩, h5⟩ := hc
  refine ⟨fn, x, d, fg, xg, r, hf, hb, hd, hg, hxg, hr, h1, h2, h3, h4, ?_, _, _, rfl⟩
  cases hl : fg.results.toList with
  | nil => rfl
  | cons _ _ => rw [hl] at h5; cases h5

theorem qgoD_ok (hT : TabOK P tab) (hm : P.follows .mixedOrders = true) (hC : CallOK P call) (hE : ∀ t y, eqs t = true → tab t = some y → y.eqOK) {fuel : Nat} {f : FuncId} {q : QD} (hq : qofD P tab f = some q)
    {args : List AV} {h : NH} {v : AV} {h' : NH} (hh : qgoD tab eqs call fuel args h q = some (v, h')) {H : AH} (ha : HA h H) :
    ∃ H', HA h' H' ∧ Stay h'.lo H H' ∧ h'.lo ≤ h.lo ∧ CallS P f args H (fun r H'' => r = v ∧ H'' = H') := by
  obtain ⟨fn, x, d, fg, xg, r, hf, hb, hd, hg, hxg, hr, hn, hso, hng, hsog, hres, D, Dg, rfl⟩ := qofD_spec hq
  obtain ⟨id, ops, rfl, hops⟩ := splitD_spec hd
  obtain ⟨o1, o2, first, cps, cl, hl, a1, a2, a3, b1, b2, b3, c1, c2, c3, c4⟩ := dfOps_spec hops
  obtain rfl := arr_nil c1
  unfold qgoD at hh
  rw [nck_iff] at hh
  obtain ⟨hle, hh⟩ := hh
  have hle : args.length ≤ fn.ntmps := Nat.le_of_ble_eq_true hle
  split at hh
  case h_2 => cases hh
  rename_i s1 h1
  rw [fAs_eq, nck_iff] at hh
  obtain ⟨hlc, hh⟩ := hh
  have hlc : (d.caps.map (nopd s1.env)).length ≤ fg.ntmps := Nat.le_of_ble_eq_true hlc
  rw [nopd_fun] at hlc hh
  split at hh
  case h_2 => cases hh
  rename_i e3 s3 h3
  unfold qgoD3 at hh
  split at hh
  · cases hh
  rename_i hne3
  split at hh
  · cases hh
  rename_i e4 s4 h4
  split at hh
  · cases hh
  rename_i hne4
  split at hh
  case h_2 => cases hh
  rename_i l h5
  cases hh
  -- the three runs
  obtain ⟨H1, d1⟩ := qruns_ok hT hm hC hE h1 ha (ntrim_JO (args0 0 args) D)
  have hj : JO D ((d.t, .junk) :: s1.env) := fun t ht => by
    rw [lk_cons]
    split
    · rfl
    · exact d1.jo t ht
  obtain ⟨H3, q3⟩ := qrun_ok hT hm hC hE h3 d1.ha hj
  have d3 := q3.did
  obtain ⟨H4, ha4, st4, lo4, clo⟩ := closure_ok hT hm hC hE hg hxg hr hres hsog hlc d3.ha h4 (fun i e => hne4 i e)
  refine ⟨H4, ha4, (d1.stay.trans d3.stay d3.lo).trans st4 lo4, Nat.le_trans lo4 (Nat.le_trans d3.lo d1.lo), fun B c w vs hs hvl hvr => .inl ⟨⟨fn, hf, by rw [hb]; rfl, hn⟩, calls_of_wp_defers hf hb ?_⟩⟩
  obtain ⟨hso1, hso⟩ := slots_spine hso
  simp only [slotsOK, Bool.and_eq_true] at hso
  obtain ⟨hso2, hso3⟩ := hso
  rw [hl] at hso2
  simp only [List.all_cons, List.all_nil, Bool.and_eq_true, Bool.and_true] at hso2
  have s0 := sat_start (N := fn.ntmps) hs hle hvl hvr
  refine d1.wp (O := ⟨fn.ntmps, B, w, c, H, []⟩) hso1 (weak_sat s0 (ntrim_weak _ D)) fun c1' a1' w1 hs1 => ?_
  have hw1 : ∀ y, Region.wanted o1 y = true := fun y => by simp [Region.wanted, a1]
  have hw2 : ∀ y, Region.wanted o2 y = true := fun y => by simp [Region.wanted, b1]
  have ht : d.t < a1'.tmps.size := by rw [hs1.size]; exact dstOK_spec hso2.1 _ a2
  have hr1 : (execOp a1'.eval o1).run P w1 = .ok (.value (.func (.func d.g) #[] (cps.map a1'.eval))) w1 := by
    unfold execOp
    rw [a3]
    simp [Instr.makeFunc]
  have hev : (a1'.put (some d.t) (.func (.func d.g) #[] (cps.map a1'.eval))).eval (.tmp d.t) = .func (.func d.g) #[] (cps.map a1'.eval) := by
    show (a1'.tmps.setIfInBounds d.t _).getD d.t undef = _
    simp [Array.getD_eq_getD_getElem?, Array.getElem?_setIfInBounds_self_of_lt ht]
  have hr2 : (execOp (a1'.put (some d.t) (.func (.func d.g) #[] (cps.map a1'.eval))).eval o2).run P w1 = .ok (.defer ⟨.fn (.func d.g) (cps.map a1'.eval), #[]⟩) w1 := by
    unfold execOp
    rw [b3]
    simp [resolve, c3, hev, Deferred.ofValue, arr_nil c4]
  refine wp_seq (wp_region_list ?_)
  rw [hl]
  simp only [wpList, hw1, hw2, if_true]
  refine .inl ?_
  unfold Oper.wp
  rw [hr1, Oper.upon_value, a2]
  refine .inl ?_
  rw [hr2, Oper.upon_defer, b2]
  have p := hs1.putd (some d.t) (by intro k hk; cases hk; exact dstOK_spec hso2.1 _ a2) (v := .junk) (val := .func (.func d.g) #[] (cps.map a1'.eval)) (.junk _)
  have hds : (a1'.put (some d.t) (.func (.func d.g) #[] (cps.map a1'.eval))).defers = [] := p.defers
  have s2 : Sat ⟨fn.ntmps, B, w1, c1', H1, [⟨.fn (.func d.g) (cps.map a1'.eval), #[]⟩]⟩ c1' ⟨(d.t, .junk) :: s1.env, H1⟩ { a1'.put (some d.t) (.func (.func d.g) #[] (cps.map a1'.eval)) with defers := ⟨.fn (.func d.g) (cps.map a1'.eval), #[]⟩ :: (a1'.put (some d.t) (.func (.func d.g) #[] (cps.map a1'.eval))).defers } w1 :=
    ⟨p.env, p.hs, p.size, by rw [hds], Ev.refl _ _ _, Below.refl _ _⟩
  refine d3.wp hso3 s2 fun c3' a3' w3 hs3 => ?_
  have leaves : ∀ R : Ending → World → Prop, (∀ c4' w4 val, (results fn a3'.tmps).run P w4 = .ok val w4 → RA w4 c4' H4 (tupOf l) val → HS w4 c4' H4 B → Ev w c H w4 c4' H4 → Below B w w4 → R (.returned val) w4) → Leaves P fn a3'.tmps R a3'.defers .returning w3 := by
    intro R hR
    rw [hs3.defers]
    refine leaves_cons (f := d.g) (args := cps.map a1'.eval) (by simp) ?_ ?_
    · show (callFunc d.g (#[] ++ cps.map a1'.eval)).run P w3 = _
      rw [Array.empty_append]
      exact run_callFunc ⟨fg, hg, by rw [hxg]; rfl, hng⟩ _ _
    · refine (clo (B := B) (c := c3') (w := w3) hs3.hs (by rw [List.length_map, ← c2]; simp) (fun i a u hi hu => ?_)).mono fun e u' w4 ⟨hu, v4, he, c4', hs4, ev4, bel4⟩ => ?_
      · rw [List.getElem?_map, ← c2, Option.map_eq_some_iff] at hi
        obtain ⟨o, ho, rfl⟩ := hi
        rw [Array.getElem?_map] at hu
        rw [Array.getElem?_toList] at ho
        rw [ho] at hu
        cases hu
        exact (opd_ok hs1.env o).ev hs3.ev
      · subst hu he
        show Leaves P fn a3'.tmps R [] .returning w4
        have s4' : Sat ⟨fn.ntmps, B, w, c, H, [⟨.fn (.func d.g) (cps.map a1'.eval), #[]⟩]⟩ c4' ⟨s3.env, H4⟩ a3' w4 := ⟨fun t => (hs3.env t).ev ev4, hs4, hs3.size, hs3.defers, (hs1.ev.trans hs3.ev).trans ev4, (hs1.below.trans hs3.below).trans bel4⟩
        rw [ha4.get] at h5
        have hx := nres_ok h5 (fun q => q = l) rfl
        obtain ⟨l2, val, r1, r2, k⟩ := results_ok (fn := fn) hT s4' hx
        subst k
        exact ⟨val, r1, hR c4' w4 val r1 r2 hs4 s4'.ev s4'.below⟩
  cases e3 with
  | exit i => exact (hne3 i rfl).elim
  | normal => exact leaves _ fun c4' w4 val r1 r2 e1 e2 e3 => ⟨val, c4', _, H4, rfl, r2, e1, e2, e3, rfl, rfl⟩
  | ret => exact leaves _ fun c4' w4 val r1 r2 e1 e2 e3 => ⟨val, c4', _, H4, rfl, r2, e1, e2, e3, rfl, rfl⟩

theorem qcall_ok (hT : TabOK P tab) (hm : P.follows .mixedOrders = true) (hE : ∀ t y, eqs t = true → tab t = some y → y.eqOK) {ext : FuncId → List AV → Option AV}
    (hX : ∀ {f : FuncId} {args : List AV} {v : AV}, ext f args = some v → ∀ H, CallS P f args H (fun r H' => r = v ∧ H' = H)) : ∀ k, CallOK P (qcall P tab eqs ext k)
  | 0 => by intro hh; cases hh
  | k + 1 => by
    intro hh H ha
    rename_i f args h v h'
    have hh : @Option.rec AV (fun _ => Option (AV × NH)) (@Option.rec QD (fun _ => Option (AV × NH)) (NOpt (qof P tab f) (qgo tab eqs (qcall P tab eqs ext k) k args h)) (qgoD tab eqs (qcall P tab eqs ext k) k args h) (qofD P tab f)) (fun v => some (v, h)) (ext f args) = some (v, h') := hh
    cases hx : ext f args with
    | some v1 =>
      rw [hx] at hh
      cases hh
      exact ⟨H, ha, Stay.refl _ _, Nat.le_refl _, hX hx H⟩
    | none =>
      rw [hx] at hh
      cases hd : qofD P tab f with
      | some d =>
        rw [hd] at hh
        exact qgoD_ok hT hm (qcall_ok hT hm hE hX k) hE hd hh ha
      | none =>
      rw [hd] at hh
      have hh : NOpt (qof P tab f) (qgo tab eqs (qcall P tab eqs ext k) k args h) = some (v, h') := hh
      rw [nopt_iff] at hh
      obtain ⟨q, hq, hh⟩ := hh
      exact qgo_ok hT hm (qcall_ok hT hm hE hX k) hE hq hh ha

noncomputable def qIs (b : Bool) (p : Option (AV × NH)) : Bool :=
  match p with
  | some (.t (.bool c), _) => c == b
  | _ => false

/-- A call without unknowns whose outcome is data: its contract. -/
theorem Runs.of_qcall (hT : TabOK P tab) (hm : P.follows .mixedOrders = true) (hE : ∀ t y, eqs t = true → tab t = some y → y.eqOK) {ext : FuncId → List AV → Option AV}
    (hX : ∀ {f : FuncId} {args : List AV} {v : AV}, ext f args = some v → ∀ H, CallS P f args H (fun r H' => r = v ∧ H' = H)) {k : Nat} {f : FuncId} {b : Bool}
    (h : qIs b (qcall P tab eqs ext k f [] ⟨.leaf, 0, 0⟩) = true) : Runs P f [] (.t (.bool b)) := by
  unfold qIs at h
  split at h
  · rename_i c h' hh
    obtain ⟨H', _, _, _, hc⟩ := qcall_ok hT hm hE hX k hh (H := []) ⟨rfl, funext fun b => by simp [Tr.get_leaf]⟩
    obtain rfl := eq_of_beq h
    refine Runs.of_call ?_ rfl
    refine CallS.mono hc fun r H'' ⟨e1, e2⟩ => ?_
    subst e1
    exact ⟨rfl, rfl⟩
  · cases h

end
end Go.Proofs.YtnjmeadmkbkikaaGreatDoor

namespace Go.Proofs.YtnjmeadmkbkikaaGreatDoor
open Go.RowKit
set_option linter.unusedVariables false
set_option linter.unusedSimpArgs false

mutual
/-- A value as data, with the blocks that it is read from. -/
def nsnapF : Nat → (Nat → Option Blk) → AV → Option (T × List Nat)
  | 0, _, _ => none
  | k + 1, get, v =>
    match v with
    | .t x => some (x, [])
    | .sl b g i m =>
      match get b with
      | some (.arr _ s z gen l) =>
        match Nat.beq g gen with
        | true => match z && Nat.beq l.length 0 with
          | true => some (.nils, [])
          | false => match l.part i m with
            | .ts q => some (.vec s q, [b])
            | .vs q => match nsnapL k get q with | some (q, ids) => some (.vec s q, b :: ids) | none => none
        | false => none
      | _ => none
    | .emp => some (.vec 0 [], [])
    | .ptr b _ _ o =>
      match get b with
      | some (.box cells) => match nsnapL k get (cells.drop o) with | some (l, ids) => some (.iptr l, b :: ids) | none => none
      | _ => none
    | .agg cs => match cs.all AV.one, nsnapL k get cs with | true, some (l, ids) => some (.agg l, ids) | _, _ => none
    | .fn f a b => match nsnapL k get a, nsnapL k get b with | some (x, i), some (y, j) => some (.fn f x y, i ++ j) | _, _ => none
    | .ifc t v => match nsnapF k get v with | some (x, i) => some (.ifc t x, i) | none => none
    | _ => none
def nsnapL : Nat → (Nat → Option Blk) → List AV → Option (List T × List Nat)
  | 0, _, _ => none
  | _ + 1, _, [] => some ([], [])
  | k + 1, get, v :: r => match nsnapF k get v, nsnapL k get r with | some (x, i), some (l, j) => some (x :: l, i ++ j) | _, _ => none
end

mutual
theorem nsnapF_eq (H : AH) : ∀ (k : Nat) (v : AV), nsnapF k (gt H) v = snapF k H v
  | 0, v => by simp only [nsnapF, snapF]
  | k + 1, v => by cases v <;> simp only [nsnapF, snapF, gt, nsnapF_eq H k, nsnapL_eq H k] <;> rfl
theorem nsnapL_eq (H : AH) : ∀ (k : Nat) (l : List AV), nsnapL k (gt H) l = snapL k H l
  | 0, l => by simp only [nsnapL, snapL]
  | k + 1, [] => by simp only [nsnapL, snapL]
  | k + 1, v :: r => by simp only [nsnapL, snapL, nsnapF_eq H k, nsnapL_eq H k]; rfl
end

section
variable {P : Program} {tab : Tab} {eqs : TypeId → Bool}

theorem toTs_map : ∀ ts : List T, toTs (ts.map .t) = some ts
  | [] => rfl
  | t :: r => by simp only [List.map_cons, toTs, toT1, toTs_map r]

/-- What a contract on data gives to other closed runs. -/
theorem Runs.known {f : FuncId} {ts : List T} {x : T} (h : Runs P f ts (.t x)) (H : AH) : CallS P f (ts.map .t) H (fun r H' => r = .t x ∧ H' = H) :=
  CallS.pure h (toTs_map ts) ⟨rfl, List.append_nil H⟩

/-- Several outcomes, each as data. -/
noncomputable def qEach (get : Nat → Option Blk) : List T → List AV → Bool
  | [], [] => true
  | x :: r, v :: q => (match (nsnapF 5000 get v).map Prod.fst with | some y => (match tEq y x with | true => qEach get r q | false => false) | none => false)
  | _, _ => false

theorem qEach_ok {H : AH} : ∀ {xs : List T} {vs : List AV}, qEach (gt H) xs vs = true → packPL2 H (xs.map .t) vs
  | [], [], _ => trivial
  | [], v :: q, h => by cases h
  | x :: r, [], h => by cases h
  | x :: r, v :: q, h => by
    unfold qEach at h
    split at h
    · rename_i y hy
      split at h
      · rename_i he
        obtain rfl := tEq_ok he
        rw [nsnapF_eq] at hy
        exact ⟨hy, qEach_ok h⟩
      · cases h
    · cases h

theorem ownL2_t : ∀ (xs : List T) (vs : List AV), ownL2 (xs.map .t) vs = []
  | [], vs => by cases vs <;> rfl
  | x :: r, [] => rfl
  | x :: r, v :: vs => ownL2_t r vs

noncomputable def qIsR (xs : List T) (p : Option (AV × NH)) : Bool :=
  match p with
  | some (.tup vs, h) => qEach h.hp.get xs vs
  | _ => false

/-- A call without unknowns whose outcomes are that data: its contract. -/
theorem Runs.of_qcallR (hT : TabOK P tab) (hm : P.follows .mixedOrders = true) (hE : ∀ t y, eqs t = true → tab t = some y → y.eqOK) {ext : FuncId → List AV → Option AV}
    (hX : ∀ {f : FuncId} {args : List AV} {v : AV}, ext f args = some v → ∀ H, CallS P f args H (fun r H' => r = v ∧ H' = H)) {k : Nat} {f : FuncId} {ts xs : List T} (hn : noRef (.tup (xs.map .t)) = true)
    (h : qIsR xs (qcall P tab eqs ext k f (ts.map .t) ⟨.leaf, 0, 0⟩) = true) : Runs P f ts (.tup (xs.map .t)) := by
  unfold qIsR at h
  split at h
  · rename_i vs h' hh
    obtain ⟨H', ha, _, _, hc⟩ := qcall_ok hT hm hE hX k hh (H := []) ⟨rfl, funext fun b => by simp [Tr.get_leaf]⟩
    rw [ha.get] at h
    refine Runs.of_call ?_ hn
    refine CallS.mono hc fun r H'' ⟨e1, e2⟩ => ?_
    subst e1 e2
    refine ⟨qEach_ok h, ?_⟩
    show apartB (ownL2 (xs.map .t) vs) _ = true
    rw [ownL2_t]
    simp [apartB]
  · cases h

/-- One more function whose outcome is known, at a string. -/
noncomputable def extP (e : FuncId → List AV → Option AV) (g : Nat) (s : List UInt8) (r : AV) : FuncId → List AV → Option AV := fun f args =>
  match Nat.beq f g, args with
  | true, [.t (.str u)] => (match sbeq u s with | true => some r | false => e f args)
  | _, _ => e f args

theorem extP_ok {e : FuncId → List AV → Option AV} {g : Nat} {s : List UInt8} {r : AV} (he : ∀ {f : FuncId} {args : List AV} {v : AV}, e f args = some v → ∀ H, CallS P f args H (fun r H' => r = v ∧ H' = H)) (h : Runs P g [.str s] r)
    (hi : ∀ n, imp n r = (r, [])) : ∀ {f : FuncId} {args : List AV} {v : AV}, extP e g s r f args = some v → ∀ H, CallS P f args H (fun r H' => r = v ∧ H' = H) := by
  intro f args v hh H
  unfold extP at hh
  split at hh
  · rename_i u hf
    split at hh
    · rename_i hs
      cases hh
      obtain rfl := Nat.eq_of_beq_eq_true hf
      obtain rfl := sbeq_ok hs
      exact CallS.pure h rfl (by rw [hi]; exact ⟨rfl, List.append_nil H⟩)
    · exact he hh H
  · exact he hh H

end
end Go.Proofs.YtnjmeadmkbkikaaGreatDoor

namespace Go.Proofs.YtnjmeadmkbkikaaGreatDoor
open Go.RowKit
set_option linter.unusedVariables false
set_option linter.unusedSimpArgs false

section
variable {P : Program} {tab : Tab} {eqs : TypeId → Bool}

end
end Go.Proofs.YtnjmeadmkbkikaaGreatDoor
