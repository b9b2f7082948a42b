/-
  The ground of the walks of this seat, part Fd.
-/
import Derived.Test.YthpkehhghcpolaaDoorFc
import Derived.Recover
namespace Go.Proofs.YthpkehhghcpolaaDoor
open Go.RowKit
set_option linter.unusedVariables false
set_option linter.unusedSimpArgs false

/-- Where a slot's value is: at a place (counted from the stack's ground); so only if a guard holds. -/
inductive SV where
  | here (x : Operand)
  | gd (g : Operand) (w : Bool) (x : Operand)

def look : List (Nat × SV) → Nat → SV
  | [], t => .here (.tmp t)
  | (a, v) :: r, t => match Nat.beq a t with | true => v | false => look r t

theorem look_cons (a : Nat) (v : SV) (r : List (Nat × SV)) (t : Nat) : look ((a, v) :: r) t = if a = t then v else look r t := by
  simp only [look, natbeq]
  by_cases h : a = t <;> simp [h]

abbrev Gd := Option (Operand × Bool)

/-- An operation of a region, and whether it is done. -/
structure QI where
  guard : Gd
  o : QO

section
variable {R : Type}

end

/-! ### Places -/

noncomputable def qevA (st : List AV) (env : List (Nat × AV)) : Operand → AV
  | .global p => st.getD (st.length - 1 - p) .junk
  | x => qev st env x

def blw (n : Nat) : Operand → Prop
  | .global p => p < n
  | _ => True

theorem qevA_push {st : List AV} {env : List (Nat × AV)} {x : Operand} (h : blw st.length x) (v : AV) : qevA (v :: st) env x = qevA st env x := by
  cases x with
  | global p =>
    have h : p < st.length := h
    simp only [qevA, List.length_cons]
    rw [show st.length + 1 - 1 - p = (st.length - 1 - p) + 1 by omega]
    rfl
  | _ => rfl

theorem blw_push {n : Nat} {x : Operand} (h : blw n x) : blw (n + 1) x := by
  cases x with
  | global p => exact Nat.lt_succ_of_lt h
  | _ => trivial

def svRel (st : List AV) (envQ envX : List (Nat × AV)) (t : Nat) : SV → Prop
  | .here x => blw st.length x ∧ qevA st envQ x = lk envX t
  | .gd g w x => blw st.length g ∧ blw st.length x ∧ ((∃ c, qevA st envQ g = .t (.bool c) ∧ (c = w → qevA st envQ x = lk envX t) ∧ (c ≠ w → lk envX t = .tup [])) ∨ (qevA st envQ g = .tup [] ∧ lk envX t = .tup []))

def Rel (σ : List (Nat × SV)) (st : List AV) (envQ envX : List (Nat × AV)) : Prop := ∀ t, svRel st envQ envX t (look σ t)

theorem svRel.push {st : List AV} {envQ envX : List (Nat × AV)} {t : Nat} {x : SV} (h : svRel st envQ envX t x) (v : AV) : svRel (v :: st) envQ envX t x := by
  cases x with
  | here x => exact ⟨blw_push h.1, by rw [qevA_push h.1]; exact h.2⟩
  | gd g w x =>
    obtain ⟨h1, h2, h3⟩ := h
    refine ⟨blw_push h1, blw_push h2, ?_⟩
    rw [qevA_push h1, qevA_push h2]
    exact h3

theorem svRel.lk {st : List AV} {envQ envX envX' : List (Nat × AV)} {t t' : Nat} {x : SV} (h : svRel st envQ envX t x) (e : Go.Proofs.YthpkehhghcpolaaDoor.lk envX' t' = Go.Proofs.YthpkehhghcpolaaDoor.lk envX t) : svRel st envQ envX' t' x := by
  cases x with
  | here x => exact ⟨h.1, h.2.trans e.symm⟩
  | gd g w x => simp only [svRel] at h ⊢; rw [e]; exact h

theorem Rel.push {σ : List (Nat × SV)} {st : List AV} {envQ envX : List (Nat × AV)} (h : Rel σ st envQ envX) (v : AV) : Rel σ (v :: st) envQ envX := fun t => (h t).push v

theorem Rel.tell {σ : List (Nat × SV)} {st : List AV} {envQ envX : List (Nat × AV)} (h : Rel σ st envQ envX) {d : Nat} {v : AV} (e : lk envX d = v) : Rel σ st envQ ((d, v) :: envX) := fun t =>
  (h t).lk (by rw [lk_cons]; split; · rename_i e2; rw [← e2, e]
               · rfl)

/-- A slot is given a value that lies so. -/
theorem Rel.set {σ : List (Nat × SV)} {st : List AV} {envQ envX : List (Nat × AV)} (h : Rel σ st envQ envX) {d : Nat} {v : AV} {x : SV} (hx : svRel st envQ ((d, v) :: envX) d x) : Rel ((d, x) :: σ) st envQ ((d, v) :: envX) := fun t => by
  rw [look_cons]
  split
  · rename_i e; subst e; exact hx
  · rename_i e; exact (h t).lk (by rw [lk_cons, if_neg e])

section
variable {R : Type} {P : Program} {tab : Tab} {eqs : TypeId → Bool} {call : CallN}

end
end Go.Proofs.YthpkehhghcpolaaDoor

namespace Go.Proofs.YthpkehhghcpolaaDoor
open Go.RowKit
set_option linter.unusedVariables false
set_option linter.unusedSimpArgs false

section
variable {R : Type} {P : Program} {tab : Tab} {eqs : TypeId → Bool} {call : CallN}

/-! ### What is written at a region's end -/

/-- No dead slot is told. -/
def JO (D : Nat) (env : List (Nat × AV)) : Prop := ∀ t, D.testBit t = true → lk env t = .junk

/-! ### Code -/

inductive QC where
  | skip | ret
  | exit (id : Nat)
  | seq (a b : QC)
  | cond (c : Operand) (a b : QC)
  | block (id : Nat) (a : QC)
  | loop (a : QC)
  | reg (is : List QI) (ws : List (Nat × Operand))
  | old (x : Code)
  | choice (ops : Array Oper) (y : QC)

/-- What a piece of code says, its dead slots not told. -/
structure DidQ (P : Program) (D : Nat) (x : Code) (s : NS) (H : AH) (e : Ex) (s' : NS) (H' : AH) : Prop where
  did : Did P x s.h s.env H e s' H'
  jo : JO D s'.env

end
end Go.Proofs.YthpkehhghcpolaaDoor

namespace Go.Proofs.YthpkehhghcpolaaDoor
open Go.RowKit
set_option linter.unusedVariables false
set_option linter.unusedSimpArgs false

/-! ### Their code -/

/-- The closure that is laid and deferred: its slot, its function, what it captures. -/
def dfOps : List Oper → Option (Nat × FuncId × List Operand)
  | [o1, o2] =>
    match o1.guard, o1.dst, o1.op, o2.guard, o2.dst, o2.op with
    | none, some t, .makeFunc (.func g) first caps, none, none, .defer c =>
      (match first.toList, c.callee, c.args.toList with
      | [], .value (.tmp u), [] => (match Nat.beq t u with | true => some (t, g, caps.toList) | false => none)
      | _, _, _ => none)
    | _, _, _, _, _, _ => none
  | _ => none

structure DF where
  a : List Code
  t : Nat
  g : FuncId
  caps : List Operand
  y : Code

/-- Is it the region that defers? -/
def dfReg : Code → Option (Nat × FuncId × List Operand)
  | .region _ ops false => dfOps ops.toList
  | _ => none

def spine : List Code → Code → Code
  | [], z => z
  | a :: r, z => .seq a (spine r z)

/-- What is asked first: is there a panic? -/
def rcOps : List Oper → Option (Nat × Nat)
  | [o1, o2] =>
    match o1.guard, o1.dst, o1.op, o2.guard, o2.dst, o2.op with
    | none, some d0, .call c, none, some d1, .assign (.tmp u) =>
      (match c.callee, c.args.toList with
      | .builtin .recover, [] => (match Nat.beq d0 u with | true => some (d0, d1) | false => none)
      | _, _ => none)
    | _, _, _, _, _, _ => none
  | _ => none

structure RF where
  d0 : Nat
  d1 : Nat
  y : Code

def splitR : Code → Option RF
  | .seq (.region _ ops false) y => (match rcOps ops.toList with | some (d0, d1) => some ⟨d0, d1, y⟩ | none => none)
  | _ => none

theorem dfOps_spec {l : List Oper} {t : Nat} {g : FuncId} {caps : List Operand} (h : dfOps l = some (t, g, caps)) :
    ∃ o1 o2 first cps c, l = [o1, o2] ∧ o1.guard = none ∧ o1.dst = some t ∧ o1.op = .makeFunc (.func g) first cps ∧ o2.guard = none ∧ o2.dst = none ∧ o2.op = .defer c ∧ first.toList = [] ∧ cps.toList = caps ∧ c.callee = .value (.tmp t) ∧ c.args.toList = [] := by
  unfold dfOps at h
  split at h
  · rename_i o1 o2
    split at h
    · rename_i t' g' first cps c e1 e2 e3 e4 e5 e6
      split at h
      · rename_i u f1 f2 f3
        split at h
        · rename_i hb
          cases h
          obtain rfl := Nat.eq_of_beq_eq_true hb
          exact ⟨o1, o2, first, cps, c, rfl, e1, e2, e3, e4, e5, e6, f1, rfl, f2, f3⟩
        · cases h
      · cases h
    · cases h
  · cases h

theorem dfReg_spec {x : Code} {q : Nat × FuncId × List Operand} (h : dfReg x = some q) : ∃ id ops, x = .region id ops false ∧ dfOps ops.toList = some q := by
  unfold dfReg at h
  split at h
  · exact ⟨_, _, rfl, h⟩
  · cases h

theorem rcOps_spec {l : List Oper} {d0 d1 : Nat} (h : rcOps l = some (d0, d1)) :
    ∃ o1 o2 c, l = [o1, o2] ∧ o1.guard = none ∧ o1.dst = some d0 ∧ o1.op = .call c ∧ o2.guard = none ∧ o2.dst = some d1 ∧ o2.op = .assign (.tmp d0) ∧ c.callee = .builtin .recover ∧ c.args.toList = [] := by
  unfold rcOps at h
  split at h
  · rename_i o1 o2
    split at h
    · rename_i c d1' u e1 e2 e3 e4 e5 e6
      split at h
      · rename_i f1 f2
        split at h
        · rename_i hb
          cases h
          obtain rfl := Nat.eq_of_beq_eq_true hb
          exact ⟨o1, o2, c, rfl, e1, e2, e3, e4, e5, e6, f1, f2⟩
        · cases h
      · cases h
    · cases h
  · cases h

theorem splitR_spec {x : Code} {d : RF} (h : splitR x = some d) : ∃ id ops, x = .seq (.region id ops false) d.y ∧ rcOps ops.toList = some (d.d0, d.d1) := by
  unfold splitR at h
  split at h
  · split at h
    · rename_i hd
      cases h
      exact ⟨_, _, rfl, hd⟩
    · cases h
  · cases h

theorem arr_nil {α : Type} {a : Array α} (h : a.toList = []) : a = #[] := by cases a; simp_all

section
variable {P : Program} {tab : Tab} {eqs : TypeId → Bool} {call : CallN}

/-- A frame's state where its function begins. -/
theorem sat_start {N B : Nat} {w : World} {c : Cx} {H : AH} {args : List AV} {vs : Array Value} (hs : HS w c H B) (hle : args.length ≤ N) (hl : vs.size = args.length) (hr : ∀ (i : Nat) a v, args[i]? = some a → vs[i]? = some v → RA w c H a v) :
    Sat ⟨N, B, w, c, H, []⟩ c ⟨args0 0 args, H⟩ { tmps := vs ++ Array.replicate (N - vs.size) undef, defers := [] } w := by
  refine ⟨fun t => ?_, hs, by simp; omega, rfl, Ev.refl _ _ _, Below.refl _ _⟩
  rw [args0_lk, if_pos (Nat.zero_le _), Nat.sub_zero]
  simp only [Array.getD_eq_getD_getElem?, List.getD_eq_getElem?_getD]
  by_cases ht : t < args.length
  · rw [Array.getElem?_append_left (by omega)]
    obtain ⟨v, hv⟩ := arr_get (a := vs) (i := t) (by omega)
    have ha : args[t]? = some args[t] := List.getElem?_eq_getElem ht
    rw [hv, ha]
    exact hr t _ v ha hv
  · rw [List.getElem?_eq_none (by omega)]
    exact .junk _

/-- What such a row of pieces says. -/
structure DidSp (P : Program) (D : Nat) (l : List Code) (s : NS) (H : AH) (s' : NS) (H' : AH) : Prop where
  ha : HA s'.h H'
  stay : Stay s'.h.lo H H'
  lo : s'.h.lo ≤ s.h.lo
  jo : JO D s'.env
  wp : ∀ {O : Org} {c : Cx} {a : Act} {w : World} {z : Code} {R : Exit → Act → World → Prop}, (∀ x ∈ l, slotsOK O.N x = true) → Sat O c ⟨s.env, H⟩ a w → (∀ c' a' w', Sat O c' ⟨s'.env, H'⟩ a' w' → z.wp P R a' w') → (spine l z).wp P R a w

end
end Go.Proofs.YthpkehhghcpolaaDoor

namespace Go.Proofs.YthpkehhghcpolaaDoor
open Go.RowKit
set_option linter.unusedVariables false
set_option linter.unusedSimpArgs false

/-! ### Slots that outlive a region -/

structure QF where
  D : Nat
  code : QC
  res : List ResultVar
  n : Nat

/-- A function that defers a closure. -/
structure QD where
  D : Nat
  a : List QC
  t : Nat
  caps : List Operand
  y : QC
  res : List ResultVar
  n : Nat
  Dg : Nat
  d0 : Nat
  d1 : Nat
  yg : QC
  ng : Nat

section
variable {P : Program} {tab : Tab} {eqs : TypeId → Bool} {call : CallN}

end
end Go.Proofs.YthpkehhghcpolaaDoor

namespace Go.Proofs.YthpkehhghcpolaaDoor
open Go.RowKit
set_option linter.unusedVariables false
set_option linter.unusedSimpArgs false

section
variable {P : Program} {tab : Tab} {eqs : TypeId → Bool}

theorem toTs_map : ∀ ts : List T, toTs (ts.map .t) = some ts
  | [] => rfl
  | t :: r => by simp only [List.map_cons, toTs, toT1, toTs_map r]

/-- What a contract on data gives to other closed runs. -/
theorem Runs.known {f : FuncId} {ts : List T} {x : T} (h : Runs P f ts (.t x)) (H : AH) : CallS P f (ts.map .t) H (fun r H' => r = .t x ∧ H' = H) :=
  CallS.pure h (toTs_map ts) ⟨rfl, List.append_nil H⟩

end
end Go.Proofs.YthpkehhghcpolaaDoor

namespace Go.Proofs.YthpkehhghcpolaaDoor
open Go.RowKit
set_option linter.unusedVariables false
set_option linter.unusedSimpArgs false

section
variable {P : Program} {tab : Tab} {eqs : TypeId → Bool}

end
end Go.Proofs.YthpkehhghcpolaaDoor

namespace Go.Proofs.YthpkehhghcpolaaDoor
open Go.RowKit
set_option linter.unusedVariables false
set_option linter.unusedSimpArgs false

/-- A piece that ends a function. -/
def endS (K : St → Prop) (e : Ex) (s : St) : Prop := match e with
  | .exit _ => False
  | _ => K s

section
variable {P : Program} {tab : Tab}

/-- The closure, where nothing panics. -/
theorem closureS_ok (hT : TabOK P tab) {reg : RegP} (hreg : RegOK P tab reg) {g : FuncId} {fg : Func} {xg : Code} (hf : P.funcs[g]? = some fg) (hb : fg.body = some xg)
    {q : RF} (hsp : splitR xg = some q) (hres : fg.results.toList = []) (hso : slotsOK fg.ntmps xg = true) {caps : List AV} (hle : caps.length ≤ fg.ntmps) {H : AH} {K : AH → Prop}
    (hrun : xcode tab (CallS P) reg H.length q.y (endS fun s => K s.H) ⟨(q.d1, .t .nili) :: (q.d0, .t .nili) :: args0 0 caps, H⟩) :
    ∀ {B : Nat} {c : Cx} {w : World} {vs : Array Value}, HS w c H B → vs.size = caps.length → (∀ (i : Nat) a v, caps[i]? = some a → vs[i]? = some v → RA w c H a v) →
      CallsD P g vs .returning w fun e u' w' => u' = .returning ∧ ∃ v, e = .returned v ∧ ∃ c' H', K H' ∧ HS w' c' H' B ∧ Ev w c H w' c' H' ∧ Below B w w' := by
  intro B c w vs hs hvl hvr
  obtain ⟨id, ops, rfl, hops⟩ := splitR_spec hsp
  obtain ⟨o1, o2, cl, hl, a1, a2, a3, b1, b2, b3, c1, c2⟩ := rcOps_spec hops
  simp only [slotsOK, Bool.and_eq_true] at hso
  obtain ⟨hso1, hso2⟩ := hso
  rw [hl] at hso1
  simp only [List.all_cons, List.all_nil, Bool.and_eq_true, Bool.and_true] at hso1
  refine callsD_of_wpS hf hb fun c₀ cs hmode => wpS_seq (wpS_region ?_)
  have hsz : ops.size = 2 := by rw [← Array.length_toList, hl]; rfl
  have h0 : ops[0]? = some o1 := by rw [← Array.getElem?_toList, hl]; rfl
  have h1 : ops[1]? = some o2 := by rw [← Array.getElem?_toList, hl]; rfl
  have s0 := sat_start (N := fg.ntmps) hs hle hvl hvr
  have s1 := s0.putd (some q.d0) (by intro k hk; cases hk; exact dstOK_spec hso1.1 _ a2) (v := .t .nili) (val := .nilIface) (.t _ _ .nili)
  have e1 := opd_ok s1.env (.tmp q.d0)
  have s2 := s1.putd (some q.d1) (by intro k hk; cases hk; exact dstOK_spec hso1.2 _ b2) e1
  have hlk : opd (putd (some q.d0) (.t .nili) (args0 0 caps)) (.tmp q.d0) = .t .nili := by
    show lk ((q.d0, .t .nili) :: args0 0 caps) q.d0 = _
    rw [lk_cons, if_pos rfl]
  rw [hlk] at s2
  have hrec : ∀ w : World, (execOp (Act.eval { tmps := vs ++ Array.replicate (fg.ntmps - vs.size) undef, defers := [] }) o1).run P w = .ok .recover w := fun w => by
    unfold execOp
    rw [a3]
    simp only [resolve, c1, pure_bind, invoke]
    rfl
  have hrd : recoverD (c₀ :: cs) = none := by simp [recoverD, hmode]
  rw [hsz]
  show wpOpsS P ops _ [0, 1] _ (c₀ :: cs) w
  have hw1 : ∀ y, Region.wanted o1 y = true := fun y => by simp [Region.wanted, a1]
  have hw2 : ∀ y, Region.wanted o2 y = true := fun y => by simp [Region.wanted, b1]
  simp only [wpOpsS, h0, h1, hw1, hw2, if_true, hrec, hrd]
  have hasg : ∀ (a : Act) (w : World), (execOp a.eval o2).run P w = .ok (.value (a.eval (.tmp q.d0))) w := fun a w => by
    unfold execOp; rw [b3]; rfl
  simp only [hasg, Oper.upon_value, a2, b2]
  refine wpS_of_wp (xcode_ok hT hreg (O := ⟨fg.ntmps, B, w, c, H, []⟩) hrun hso2 s2 fun e s' c' a' w' hs' hq => ?_)
  obtain ⟨l2, val, r1, r2, _⟩ := results_ok (fn := fg) hT hs' (K := fun _ => True) (by rw [hres]; exact trivial)
  have hc : ({ c₀ with mode := .returning } : Frame) = c₀ := by rw [← hmode]
  cases e with
  | exit id => exact hq.elim
  | normal => exact ⟨hs'.defers, .returning, by rw [hc], val, r1, rfl, val, rfl, c', s'.H, hq, hs'.hs, hs'.ev, hs'.below⟩
  | ret => exact ⟨hs'.defers, .returning, by rw [hc], val, r1, rfl, val, rfl, c', s'.H, hq, hs'.hs, hs'.ev, hs'.below⟩

end
end Go.Proofs.YthpkehhghcpolaaDoor

namespace Go.Proofs.YthpkehhghcpolaaDoor
open Go.RowKit
set_option linter.unusedVariables false
set_option linter.unusedSimpArgs false

section
variable {P : Program} {tab : Tab}

/-- The closure that the k-th piece of a function lays and defers. -/
def chkD : Nat → Code → Option (Nat × FuncId × List Operand)
  | 0, .seq a _ => dfReg a
  | k + 1, .seq a y => (match dfReg a with | none => chkD k y | some _ => none)
  | _, _ => none

def chkR : Code → Option (Nat × Nat)
  | .seq (.region _ ops false) _ => rcOps ops.toList
  | _ => none

def sndC : Code → (Code → Prop) → Prop
  | .seq _ y, K => K y
  | _, _ => False

/-- The pieces ahead of the k-th one, which defers; then the code behind it. -/
noncomputable def xspK (tab : Tab) (call : CallP) (reg : RegP) (k0 : Nat) (Q : Ex → St → Prop) (K : Code → St → Prop) (k : Nat) : Code → St → Prop :=
  @Nat.rec (fun _ => Code → St → Prop) (fun x s => match x with | .seq _ y => K y s | _ => False)
    (fun _ ih x s => match x with | .seq a y => xcode tab call reg k0 a (fun e s' => match e with | .normal => ih y s' | e => Q e s') s | _ => False) k

theorem xspK_ok (hT : TabOK P tab) {reg : RegP} (hreg : RegOK P tab reg) {O : Org} {R : Exit → Act → World → Prop} {Q : Ex → St → Prop} {K : Code → St → Prop} {t : Nat} {g : FuncId} {caps : List Operand} (hR : Ends O Q R)
    (hK : ∀ id ops y, dfOps ops.toList = some (t, g, caps) → slotsOK O.N (.seq (.region id ops false) y) = true → ∀ s c a w, Sat O c s a w → K y s → (Code.seq (.region id ops false) y).wp P R a w) :
    ∀ {k : Nat} {x : Code} {s : St}, chkD k x = some (t, g, caps) → xspK tab (CallS P) reg O.H0.length Q K k x s → slotsOK O.N x = true → ∀ {c : Cx} {a : Act} {w : World}, Sat O c s a w → x.wp P R a w
  | 0, .seq x y, s, hk, h, hd, c, a, w, hs => by
    obtain ⟨id, ops, rfl, ho⟩ := dfReg_spec (show dfReg x = some (t, g, caps) from hk)
    exact hK id ops y ho hd s c a w hs h
  | k + 1, .seq x y, s, hk, h, hd, c, a, w, hs => by
    simp only [chkD] at hk
    split at hk
    · simp only [slotsOK, Bool.and_eq_true] at hd
      refine wp_seq (xcode_ok hT hreg (show xcode tab (CallS P) reg O.H0.length x _ s from h) hd.1 hs fun e s' c' a' w' hs' hq => ?_)
      cases e with
      | normal => exact xspK_ok hT hreg hR hK hk hq hd.2 hs'
      | exit id => exact hR (.exit id) s' c' a' w' hs' hq
      | ret => exact hR .ret s' c' a' w' hs' hq
    · cases hk
  | 0, .region .., _, h, _, _, _, _, _, _ => by cases h
  | 0, .skip, _, h, _, _, _, _, _, _ => by cases h
  | 0, .cond .., _, h, _, _, _, _, _, _ => by cases h
  | 0, .block .., _, h, _, _, _, _, _, _ => by cases h
  | 0, .loop .., _, h, _, _, _, _, _, _ => by cases h
  | 0, .exit .., _, h, _, _, _, _, _, _ => by cases h
  | 0, .ret, _, h, _, _, _, _, _, _ => by cases h
  | k + 1, .region .., _, h, _, _, _, _, _, _ => by cases h
  | k + 1, .skip, _, h, _, _, _, _, _, _ => by cases h
  | k + 1, .cond .., _, h, _, _, _, _, _, _ => by cases h
  | k + 1, .block .., _, h, _, _, _, _, _, _ => by cases h
  | k + 1, .loop .., _, h, _, _, _, _, _, _ => by cases h
  | k + 1, .exit .., _, h, _, _, _, _, _, _ => by cases h
  | k + 1, .ret, _, h, _, _, _, _, _, _ => by cases h

theorem CallS.of_fnK (hT : TabOK P tab) {reg : RegP} (hreg : RegOK P tab reg) {f : FuncId} {fn : Func} {x : Code} {fg : Func} {xg : Code} (hf : P.funcs[f]? = some fn) (hb : fn.body = some x) (k t : Nat) (g : FuncId) (caps : List Operand) (hg : P.funcs[g]? = some fg) (hxg : fg.body = some xg) (d0 d1 : Nat)
    (hn : (fn.name == "runtime.NumGoroutine") = false) (hng : (fg.name == "runtime.NumGoroutine") = false) (hres : fg.results.toList = []) (hd : chkD k x = some (t, g, caps)) (hr : chkR xg = some (d0, d1))
    {args : List AV} {H : AH} {Q : AV → AH → Prop} (hc : (Nat.ble args.length fn.ntmps && slotsOK fn.ntmps x && Nat.ble caps.length fg.ntmps && slotsOK fg.ntmps xg) = true)
    (h : xspK tab (CallS P) reg H.length (endS fun s => xres tab s fn.results.toList fun l => Q (tupOf l) s.H)
      (fun y s1 => xcode tab (CallS P) reg s1.H.length y (endS fun s3 => sndC xg fun ry => xcode tab (CallS P) reg s3.H.length ry (endS fun s4 => xres tab ⟨s3.env, s4.H⟩ fn.results.toList fun l => Q (tupOf l) s4.H) ⟨(d1, .t .nili) :: (d0, .t .nili) :: args0 0 (caps.map (opd s1.env)), s3.H⟩)
        ⟨(t, .junk) :: s1.env, s1.H⟩)
      k x ⟨args0 0 args, H⟩) : CallS P f args H Q := by
  simp only [Bool.and_eq_true] at hc
  obtain ⟨⟨⟨hle, hso⟩, hlc⟩, hsog⟩ := hc
  have hle := Nat.le_of_ble_eq_true hle
  have hlc := Nat.le_of_ble_eq_true hlc
  obtain ⟨ry, hspl, hsnd⟩ : ∃ ry, splitR xg = some ⟨d0, d1, ry⟩ ∧ ∀ K : Code → Prop, sndC xg K → K ry := by
    unfold chkR at hr
    split at hr
    · rename_i id ops y
      exact ⟨y, by simp only [splitR, hr], fun K hK => hK⟩
    · cases hr
  refine fun B c w vs hs hvl hvr => .inl ⟨⟨fn, hf, by rw [hb]; rfl, hn⟩, calls_of_wp_defers hf hb ?_⟩
  have s0 := sat_start (N := fn.ntmps) hs hle hvl hvr
  refine xspK_ok hT hreg (O := ⟨fn.ntmps, B, w, c, H, []⟩) (fun e s' c' a' w' hs' hq => ?_) (fun id ops y hops hso' s1 c1' a1' w1 hs1 hk => ?_) hd h hso s0
  · cases e with
    | exit i => exact hq.elim
    | normal =>
      obtain ⟨l, val, r1, r2, k⟩ := results_ok hT hs' hq
      show Leaves P fn a'.tmps _ a'.defers .returning w'
      rw [hs'.defers]
      exact ⟨val, r1, val, c', _, s'.H, rfl, r2, hs'.hs, hs'.ev, hs'.below, k⟩
    | ret =>
      obtain ⟨l, val, r1, r2, k⟩ := results_ok hT hs' hq
      show Leaves P fn a'.tmps _ a'.defers .returning w'
      rw [hs'.defers]
      exact ⟨val, r1, val, c', _, s'.H, rfl, r2, hs'.hs, hs'.ev, hs'.below, k⟩
  obtain ⟨o1, o2, first, cps, cl, hl, a1, a2, a3, b1, b2, b3, c1, c2, c3, c4⟩ := dfOps_spec hops
  obtain rfl := arr_nil c1
  simp only [slotsOK, Bool.and_eq_true] at hso'
  obtain ⟨hso2, hso3⟩ := hso'
  rw [hl] at hso2
  simp only [List.all_cons, List.all_nil, Bool.and_eq_true, Bool.and_true] at hso2
  have hw1 : ∀ y, Region.wanted o1 y = true := fun y => by simp [Region.wanted, a1]
  have hw2 : ∀ y, Region.wanted o2 y = true := fun y => by simp [Region.wanted, b1]
  have ht : t < a1'.tmps.size := by rw [hs1.size]; exact dstOK_spec hso2.1 _ a2
  have hr1 : (execOp a1'.eval o1).run P w1 = .ok (.value (.func (.func g) #[] (cps.map a1'.eval))) w1 := by
    unfold execOp
    rw [a3]
    simp [Instr.makeFunc]
  have hev : (a1'.put (some t) (.func (.func g) #[] (cps.map a1'.eval))).eval (.tmp t) = .func (.func g) #[] (cps.map a1'.eval) := by
    show (a1'.tmps.setIfInBounds t _).getD t undef = _
    simp [Array.getD_eq_getD_getElem?, Array.getElem?_setIfInBounds_self_of_lt ht]
  have hr2 : (execOp (a1'.put (some t) (.func (.func g) #[] (cps.map a1'.eval))).eval o2).run P w1 = .ok (.defer ⟨.fn (.func g) (cps.map a1'.eval), #[]⟩) w1 := by
    unfold execOp
    rw [b3]
    simp [resolve, c3, hev, Deferred.ofValue, arr_nil c4]
  refine wp_seq (wp_region_list ?_)
  rw [hl]
  simp only [wpList, hw1, hw2, if_true]
  refine .inl ?_
  unfold Oper.wp
  rw [hr1, Oper.upon_value, a2]
  refine .inl ?_
  rw [hr2, Oper.upon_defer, b2]
  have p := hs1.putd (some t) (by intro k hk; cases hk; exact dstOK_spec hso2.1 _ a2) (v := .junk) (val := .func (.func g) #[] (cps.map a1'.eval)) (.junk _)
  have hds : (a1'.put (some t) (.func (.func g) #[] (cps.map a1'.eval))).defers = [] := p.defers
  have s2 : Sat ⟨fn.ntmps, B, w1, c1', s1.H, [⟨.fn (.func g) (cps.map a1'.eval), #[]⟩]⟩ c1' ⟨(t, .junk) :: s1.env, s1.H⟩ { a1'.put (some t) (.func (.func g) #[] (cps.map a1'.eval)) with defers := ⟨.fn (.func g) (cps.map a1'.eval), #[]⟩ :: (a1'.put (some t) (.func (.func g) #[] (cps.map a1'.eval))).defers } w1 :=
    ⟨p.env, p.hs, p.size, by rw [hds], Ev.refl _ _ _, Below.refl _ _⟩
  refine xcode_ok hT hreg (O := ⟨fn.ntmps, B, w1, c1', s1.H, [⟨.fn (.func g) (cps.map a1'.eval), #[]⟩]⟩) hk hso3 s2 fun e s3 c3' a3' w3 hs3 hq => ?_
  have leaves : (xcode tab (CallS P) reg s3.H.length ry (endS fun s4 => xres tab ⟨s3.env, s4.H⟩ fn.results.toList fun l => Q (tupOf l) s4.H) ⟨(d1, .t .nili) :: (d0, .t .nili) :: args0 0 (caps.map (opd s1.env)), s3.H⟩) →
      ∀ R : Ending → World → Prop, (∀ c4' w4 val l H4, RA w4 c4' H4 (tupOf l) val → HS w4 c4' H4 B → Ev w c H w4 c4' H4 → Below B w w4 → Q (tupOf l) H4 → R (.returned val) w4) → Leaves P fn a3'.tmps R a3'.defers .returning w3 := by
    intro hrun R hR
    rw [hs3.defers]
    refine leaves_cons (f := g) (args := cps.map a1'.eval) (by simp) ?_ ?_
    · show (callFunc g (#[] ++ cps.map a1'.eval)).run P w3 = _
      rw [Array.empty_append]
      exact run_callFunc ⟨fg, hg, by rw [hxg]; rfl, hng⟩ _ _
    · refine (closureS_ok hT hreg hg hxg hspl hres hsog (caps := caps.map (opd s1.env)) (by rw [List.length_map]; exact hlc) (K := fun H4 => xres tab ⟨s3.env, H4⟩ fn.results.toList fun l => Q (tupOf l) H4) hrun (B := B) (c := c3') (w := w3) hs3.hs (by rw [List.length_map, ← c2]; simp) (fun i a u hi hu => ?_)).mono fun e u' w4 ⟨hu, v4, he, c4', H4, hq4, hs4, ev4, bel4⟩ => ?_
      · rw [List.getElem?_map, ← c2, Option.map_eq_some_iff] at hi
        obtain ⟨o, ho, rfl⟩ := hi
        rw [Array.getElem?_map] at hu
        rw [Array.getElem?_toList] at ho
        rw [ho] at hu
        cases hu
        exact (opd_ok hs1.env o).ev hs3.ev
      · subst hu he
        show Leaves P fn a3'.tmps R [] .returning w4
        have s4' : Sat ⟨fn.ntmps, B, w, c, H, [⟨.fn (.func g) (cps.map a1'.eval), #[]⟩]⟩ c4' ⟨s3.env, H4⟩ a3' w4 := ⟨fun t => (hs3.env t).ev ev4, hs4, hs3.size, hs3.defers, (hs1.ev.trans hs3.ev).trans ev4, (hs1.below.trans hs3.below).trans bel4⟩
        obtain ⟨l2, val, r1, r2, k⟩ := results_ok (fn := fn) hT s4' hq4
        exact ⟨val, r1, hR c4' w4 val l2 H4 r2 hs4 s4'.ev s4'.below k⟩
  cases e with
  | exit i => exact hq.elim
  | normal => exact leaves (hsnd _ hq) _ fun c4' w4 val l H4 r2 e1 e2 e3 k => ⟨val, c4', _, H4, rfl, r2, e1, e2, e3, k⟩
  | ret => exact leaves (hsnd _ hq) _ fun c4' w4 val l H4 r2 e1 e2 e3 k => ⟨val, c4', _, H4, rfl, r2, e1, e2, e3, k⟩

end
end Go.Proofs.YthpkehhghcpolaaDoor
