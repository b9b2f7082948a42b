/-
  Functions that defer one closure, which asks whether there is a panic: where there is none.
-/
import Derived.Test.YthpkehhghcpolaaDoorQCode
import Derived.Recover
namespace Go.Proofs.YthpkehhghcpolaaDoor
open Go.RowKit
set_option linter.unusedVariables false
set_option linter.unusedSimpArgs false

/-! ### Their code -/

/-- The closure that is laid and deferred: its slot, its function, what it captures. -/
def dfOps : List Oper → Option (Nat × FuncId × List Operand)
  | [o1, o2] =>
    match o1.guard, o1.dst, o1.op, o2.guard, o2.dst, o2.op with
    | none, some t, .makeFunc (.func g) first caps, none, none, .defer c =>
      (match first.toList, c.callee, c.args.toList with
      | [], .value (.tmp u), [] => (match Nat.beq t u with | true => some (t, g, caps.toList) | false => none)
      | _, _, _ => none)
    | _, _, _, _, _, _ => none
  | _ => none

structure DF where
  a : List Code
  t : Nat
  g : FuncId
  caps : List Operand
  y : Code

/-- Is it the region that defers? -/
def dfReg : Code → Option (Nat × FuncId × List Operand)
  | .region _ ops false => dfOps ops.toList
  | _ => none

/-- What runs ahead of the region that defers, and what behind it. -/
def splitD : Code → Option DF
  | .seq x y => (match dfReg x with
    | some (t, g, caps) => some ⟨[], t, g, caps, y⟩
    | none => (match splitD y with | some d => some ⟨x :: d.a, d.t, d.g, d.caps, d.y⟩ | none => none))
  | _ => none

def spine : List Code → Code → Code
  | [], z => z
  | a :: r, z => .seq a (spine r z)

/-- What is asked first: is there a panic? -/
def rcOps : List Oper → Option (Nat × Nat)
  | [o1, o2] =>
    match o1.guard, o1.dst, o1.op, o2.guard, o2.dst, o2.op with
    | none, some d0, .call c, none, some d1, .assign (.tmp u) =>
      (match c.callee, c.args.toList with
      | .builtin .recover, [] => (match Nat.beq d0 u with | true => some (d0, d1) | false => none)
      | _, _ => none)
    | _, _, _, _, _, _ => none
  | _ => none

structure RF where
  d0 : Nat
  d1 : Nat
  y : Code

def splitR : Code → Option RF
  | .seq (.region _ ops false) y => (match rcOps ops.toList with | some (d0, d1) => some ⟨d0, d1, y⟩ | none => none)
  | _ => none

theorem dfOps_spec {l : List Oper} {t : Nat} {g : FuncId} {caps : List Operand} (h : dfOps l = some (t, g, caps)) :
    ∃ o1 o2 first cps c, l = [o1, o2] ∧ o1.guard = none ∧ o1.dst = some t ∧ o1.op = .makeFunc (.func g) first cps ∧ o2.guard = none ∧ o2.dst = none ∧ o2.op = .defer c ∧ first.toList = [] ∧ cps.toList = caps ∧ c.callee = .value (.tmp t) ∧ c.args.toList = [] := by
  unfold dfOps at h
  split at h
  · rename_i o1 o2
    split at h
    · rename_i t' g' first cps c e1 e2 e3 e4 e5 e6
      split at h
      · rename_i u f1 f2 f3
        split at h
        · rename_i hb
          cases h
          obtain rfl := Nat.eq_of_beq_eq_true hb
          exact ⟨o1, o2, first, cps, c, rfl, e1, e2, e3, e4, e5, e6, f1, rfl, f2, f3⟩
        · cases h
      · cases h
    · cases h
  · cases h

theorem dfReg_spec {x : Code} {q : Nat × FuncId × List Operand} (h : dfReg x = some q) : ∃ id ops, x = .region id ops false ∧ dfOps ops.toList = some q := by
  unfold dfReg at h
  split at h
  · exact ⟨_, _, rfl, h⟩
  · cases h

theorem splitD_spec : ∀ {x : Code} {d : DF}, splitD x = some d → ∃ id ops, x = spine d.a (.seq (.region id ops false) d.y) ∧ dfOps ops.toList = some (d.t, d.g, d.caps) := by
  intro x
  induction x with
  | seq x y ihx ihy =>
    intro d h
    unfold splitD at h
    split at h
    · rename_i hd
      cases h
      obtain ⟨id, ops, rfl, ho⟩ := dfReg_spec hd
      exact ⟨id, ops, rfl, ho⟩
    · split at h
      · rename_i d' hd
        cases h
        obtain ⟨id, ops, e, ho⟩ := ihy hd
        exact ⟨id, ops, by rw [e]; rfl, ho⟩
      · cases h
  | _ => intro d h; cases h

theorem slots_spine {n : Nat} {z : Code} : ∀ {l : List Code}, slotsOK n (spine l z) = true → (∀ x ∈ l, slotsOK n x = true) ∧ slotsOK n z = true
  | [], h => ⟨fun _ hx => (List.not_mem_nil hx).elim, h⟩
  | a :: r, h => by
    simp only [spine, slotsOK, Bool.and_eq_true] at h
    obtain ⟨h1, h2⟩ := slots_spine h.2
    refine ⟨fun x hx => ?_, h2⟩
    rcases List.mem_cons.1 hx with rfl | hx
    · exact h.1
    · exact h1 x hx

theorem rcOps_spec {l : List Oper} {d0 d1 : Nat} (h : rcOps l = some (d0, d1)) :
    ∃ o1 o2 c, l = [o1, o2] ∧ o1.guard = none ∧ o1.dst = some d0 ∧ o1.op = .call c ∧ o2.guard = none ∧ o2.dst = some d1 ∧ o2.op = .assign (.tmp d0) ∧ c.callee = .builtin .recover ∧ c.args.toList = [] := by
  unfold rcOps at h
  split at h
  · rename_i o1 o2
    split at h
    · rename_i c d1' u e1 e2 e3 e4 e5 e6
      split at h
      · rename_i f1 f2
        split at h
        · rename_i hb
          cases h
          obtain rfl := Nat.eq_of_beq_eq_true hb
          exact ⟨o1, o2, c, rfl, e1, e2, e3, e4, e5, e6, f1, f2⟩
        · cases h
      · cases h
    · cases h
  · cases h

theorem splitR_spec {x : Code} {d : RF} (h : splitR x = some d) : ∃ id ops, x = .seq (.region id ops false) d.y ∧ rcOps ops.toList = some (d.d0, d.d1) := by
  unfold splitR at h
  split at h
  · split at h
    · rename_i hd
      cases h
      exact ⟨_, _, rfl, hd⟩
    · cases h
  · cases h

theorem arr_nil {α : Type} {a : Array α} (h : a.toList = []) : a = #[] := by cases a; simp_all

section
variable {P : Program} {tab : Tab} {eqs : TypeId → Bool} {call : CallN}

/-- A frame's state where its function begins. -/
theorem sat_start {N B : Nat} {w : World} {c : Cx} {H : AH} {args : List AV} {vs : Array Value} (hs : HS w c H B) (hle : args.length ≤ N) (hl : vs.size = args.length) (hr : ∀ (i : Nat) a v, args[i]? = some a → vs[i]? = some v → RA w c H a v) :
    Sat ⟨N, B, w, c, H, []⟩ c ⟨args0 0 args, H⟩ { tmps := vs ++ Array.replicate (N - vs.size) undef, defers := [] } w := by
  refine ⟨fun t => ?_, hs, by simp; omega, rfl, Ev.refl _ _ _, Below.refl _ _⟩
  rw [args0_lk, if_pos (Nat.zero_le _), Nat.sub_zero]
  simp only [Array.getD_eq_getD_getElem?, List.getD_eq_getElem?_getD]
  by_cases ht : t < args.length
  · rw [Array.getElem?_append_left (by omega)]
    obtain ⟨v, hv⟩ := arr_get (a := vs) (i := t) (by omega)
    have ha : args[t]? = some args[t] := List.getElem?_eq_getElem ht
    rw [hv, ha]
    exact hr t _ v ha hv
  · rw [List.getElem?_eq_none (by omega)]
    exact .junk _

/-- Pieces of code one behind the other, each of which ends in order. -/
noncomputable def qruns (tab : Tab) (eqs : TypeId → Bool) (call : CallN) (D fuel : Nat) : List QC → NS → Option NS
  | [], s => some s
  | a :: r, s => match qrun tab eqs call D fuel a s with
    | some (.normal, s1) => qruns tab eqs call D fuel r s1
    | _ => none

/-- What such a row of pieces says. -/
structure DidSp (P : Program) (D : Nat) (l : List Code) (s : NS) (H : AH) (s' : NS) (H' : AH) : Prop where
  ha : HA s'.h H'
  stay : Stay s'.h.lo H H'
  lo : s'.h.lo ≤ s.h.lo
  jo : JO D s'.env
  wp : ∀ {O : Org} {c : Cx} {a : Act} {w : World} {z : Code} {R : Exit → Act → World → Prop}, (∀ x ∈ l, slotsOK O.N x = true) → Sat O c ⟨s.env, H⟩ a w → (∀ c' a' w', Sat O c' ⟨s'.env, H'⟩ a' w' → z.wp P R a' w') → (spine l z).wp P R a w

theorem qruns_ok (hT : TabOK P tab) (hm : P.follows .mixedOrders = true) (hC : CallOK P call) (hE : ∀ t y, eqs t = true → tab t = some y → y.eqOK) {D fuel : Nat} : ∀ {l : List Code} {s : NS} {H : AH} {s' : NS},
    qruns tab eqs call D fuel (l.map (comp tab D)) s = some s' → HA s.h H → JO D s.env → ∃ H', DidSp P D l s H s' H'
  | [], s, H, s', hh, ha, hj => by
    cases hh
    exact ⟨H, ha, Stay.refl _ _, Nat.le_refl _, hj, fun _ hs hR => hR _ _ _ hs⟩
  | x :: l, s, H, s', hh, ha, hj => by
    rw [List.map_cons] at hh
    unfold qruns at hh
    split at hh
    · rename_i s1 h1
      obtain ⟨H1, q1⟩ := qrun_ok hT hm hC hE h1 ha hj
      obtain ⟨H2, q2⟩ := qruns_ok hT hm hC hE hh q1.did.ha q1.jo
      exact ⟨H2, q2.ha, q1.did.stay.trans q2.stay q2.lo, Nat.le_trans q2.lo q1.did.lo, q2.jo, fun hsl hs hR => wp_seq (q1.did.wp (hsl _ List.mem_cons_self) hs fun c' a' w' hs' => q2.wp (fun y hy => hsl y (List.mem_cons_of_mem _ hy)) hs' hR)⟩
    · cases hh

/-- The closure, where nothing panics. -/
theorem closure_ok (hT : TabOK P tab) (hm : P.follows .mixedOrders = true) (hC : CallOK P call) (hE : ∀ t y, eqs t = true → tab t = some y → y.eqOK) {g : FuncId} {fg : Func} {xg : Code} (hf : P.funcs[g]? = some fg) (hb : fg.body = some xg)
    {q : RF} (hsp : splitR xg = some q) (hres : fg.results.toList = []) (hso : slotsOK fg.ntmps xg = true) {D fuel : Nat} {caps : List AV} (hle : caps.length ≤ fg.ntmps) {h : NH} {H : AH} (ha : HA h H) {e : Ex} {s' : NS}
    (hrun : rTrim D ⟨(q.d1, .t .nili) :: (q.d0, .t .nili) :: args0 0 caps, h⟩ (qrun tab eqs call D fuel (comp tab D q.y)) = some (e, s')) (hne : ∀ i, e ≠ .exit i) :
    ∃ H', HA s'.h H' ∧ Stay s'.h.lo H H' ∧ s'.h.lo ≤ h.lo ∧ ∀ {B : Nat} {c : Cx} {w : World} {vs : Array Value}, HS w c H B → vs.size = caps.length → (∀ (i : Nat) a v, caps[i]? = some a → vs[i]? = some v → RA w c H a v) →
      CallsD P g vs .returning w fun e u' w' => u' = .returning ∧ ∃ v, e = .returned v ∧ ∃ c', HS w' c' H' B ∧ Ev w c H w' c' H' ∧ Below B w w' := by
  obtain ⟨id, ops, rfl, hops⟩ := splitR_spec hsp
  obtain ⟨o1, o2, cl, hl, a1, a2, a3, b1, b2, b3, c1, c2⟩ := rcOps_spec hops
  rw [rTrim_eq] at hrun
  generalize hG : (q.d1, AV.t .nili) :: (q.d0, AV.t .nili) :: args0 0 caps = E at hrun
  have hrun : qrun tab eqs call D fuel (comp tab D q.y) ⟨ntrim E D, h⟩ = some (e, s') := hrun
  obtain ⟨H1, q1⟩ := qrun_ok hT hm hC hE hrun ha (ntrim_JO E D)
  have d1 : Did P q.y h E H e s' H1 := q1.did.weak (ntrim_weak E D)
  subst hG
  refine ⟨H1, d1.ha, d1.stay, d1.lo, fun {B c w vs} hs hvl hvr => ?_⟩
  simp only [slotsOK, Bool.and_eq_true] at hso
  obtain ⟨hso1, hso2⟩ := hso
  rw [hl] at hso1
  simp only [List.all_cons, List.all_nil, Bool.and_eq_true, Bool.and_true] at hso1
  refine callsD_of_wpS hf hb fun c₀ cs hmode => wpS_seq (wpS_region ?_)
  have hsz : ops.size = 2 := by rw [← Array.length_toList, hl]; rfl
  have h0 : ops[0]? = some o1 := by rw [← Array.getElem?_toList, hl]; rfl
  have h1 : ops[1]? = some o2 := by rw [← Array.getElem?_toList, hl]; rfl
  have s0 := sat_start (N := fg.ntmps) hs hle hvl hvr
  have s1 := s0.putd (some q.d0) (by intro k hk; cases hk; exact dstOK_spec hso1.1 _ a2) (v := .t .nili) (val := .nilIface) (.t _ _ .nili)
  have e1 := opd_ok s1.env (.tmp q.d0)
  have s2 := s1.putd (some q.d1) (by intro k hk; cases hk; exact dstOK_spec hso1.2 _ b2) e1
  have hlk : opd (putd (some q.d0) (.t .nili) (args0 0 caps)) (.tmp q.d0) = .t .nili := by
    show lk ((q.d0, .t .nili) :: args0 0 caps) q.d0 = _
    rw [lk_cons, if_pos rfl]
  rw [hlk] at s2
  have hrec : ∀ w : World, (execOp (Act.eval { tmps := vs ++ Array.replicate (fg.ntmps - vs.size) undef, defers := [] }) o1).run P w = .ok .recover w := fun w => by
    unfold execOp
    rw [a3]
    simp only [resolve, c1, pure_bind, invoke]
    rfl
  have hrd : recoverD (c₀ :: cs) = none := by simp [recoverD, hmode]
  rw [hsz]
  show wpOpsS P ops _ [0, 1] _ (c₀ :: cs) w
  have hw1 : ∀ y, Region.wanted o1 y = true := fun y => by simp [Region.wanted, a1]
  have hw2 : ∀ y, Region.wanted o2 y = true := fun y => by simp [Region.wanted, b1]
  simp only [wpOpsS, h0, h1, hw1, hw2, if_true, hrec, hrd]
  have hasg : ∀ (a : Act) (w : World), (execOp a.eval o2).run P w = .ok (.value (a.eval (.tmp q.d0))) w := fun a w => by
    unfold execOp; rw [b3]; rfl
  simp only [hasg, Oper.upon_value, a2, b2]
  refine wpS_of_wp (d1.wp (O := ⟨fg.ntmps, B, w, c, H, []⟩) hso2 s2 fun c' a' w' hs' => ?_)
  have hx := nres_ok (tab := tab) (env := s'.env) (H := H1) (l := []) (vs := []) rfl (fun q => True) trivial
  obtain ⟨l2, val, r1, r2, _⟩ := results_ok (fn := fg) hT hs' (by rw [hres]; exact hx)
  have hc : ({ c₀ with mode := .returning } : Frame) = c₀ := by rw [← hmode]
  cases e with
  | exit id => exact (hne id rfl).elim
  | normal => exact ⟨hs'.defers, .returning, by rw [hc], val, r1, rfl, val, rfl, c', hs'.hs, hs'.ev, hs'.below⟩
  | ret => exact ⟨hs'.defers, .returning, by rw [hc], val, r1, rfl, val, rfl, c', hs'.hs, hs'.ev, hs'.below⟩

end
end Go.Proofs.YthpkehhghcpolaaDoor
