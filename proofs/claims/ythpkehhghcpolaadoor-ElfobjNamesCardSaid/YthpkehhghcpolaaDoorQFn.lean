/-
  Functions of the fast engine, and contracts of closed runs.
-/
import Derived.Test.YthpkehhghcpolaaDoorQDef
namespace Go.Proofs.YthpkehhghcpolaaDoor
open Go.RowKit
set_option linter.unusedVariables false
set_option linter.unusedSimpArgs false

/-! ### Slots that outlive a region -/

def slotBit : Operand → Nat
  | .tmp t => Nat.shiftLeft 1 t
  | _ => 0

def rdBits : List Operand → Nat
  | [] => 0
  | x :: r => Nat.lor (slotBit x) (rdBits r)

/-- Of a region: what it reads before it wrote it ('e'), where 'm' is what was written and 'a' all that may be asked. -/
def expo (ops : Array Oper) (a : Nat) : List Oper → Nat → Nat → Nat
  | [], m, e => e
  | o :: r, m, e =>
    let rd := Nat.lor (rdBits (opnds o.op)) (rdBits (gdSlot ops o))
    let e := Nat.lor e (Nat.land rd (Nat.xor a (Nat.land a m)))
    let m := (match o.dst with | some d => Nat.lor m (Nat.shiftLeft 1 d) | none => m)
    expo ops a r m e

def liveC (a : Nat) : Code → Nat
  | .seq x y => Nat.lor (liveC a x) (liveC a y)
  | .cond c x y => Nat.lor (slotBit c) (Nat.lor (liveC a x) (liveC a y))
  | .block _ x => liveC a x
  | .loop x => liveC a x
  | .region _ ops _ => expo ops a ops.toList 0 0
  | _ => 0

def liveR : List ResultVar → Nat
  | [] => 0
  | .tmp t :: r => Nat.lor (Nat.shiftLeft 1 t) (liveR r)
  | .cell t _ :: r => Nat.lor (Nat.shiftLeft 1 t) (liveR r)

def deadOf (n : Nat) (res : List ResultVar) (x : Code) : Nat :=
  let a := Nat.sub (Nat.shiftLeft 1 n) 1
  Nat.xor a (Nat.land a (Nat.lor (liveC a x) (liveR res)))

structure QF where
  D : Nat
  code : QC
  res : List ResultVar
  n : Nat

noncomputable def qof (P : Program) (tab : Tab) (f : FuncId) : Option QF :=
  match P.funcs[f]? with
  | none => none
  | some fn =>
    match fn.body with
    | none => none
    | some x =>
      match !(fn.name == "runtime.NumGoroutine") && slotsOK fn.ntmps x with
      | false => none
      | true => fN (deadOf fn.ntmps fn.results.toList x) fun D => some ⟨D, comp tab D x, fn.results.toList, fn.ntmps⟩

noncomputable def qend (tab : Tab) (res : List ResultVar) (e : Ex) (s : NS) : Option (AV × NH) :=
  match e with
  | .exit _ => none
  | _ => (match nres tab s.env s.h.hp.get res with | some l => some (tupOf l, s.h) | none => none)

noncomputable def qgo (tab : Tab) (eqs : TypeId → Bool) (call : CallN) (fuel : Nat) (args : List AV) (h : NH) (q : QF) : Option (AV × NH) :=
  @QF.rec (fun _ => Option (AV × NH)) (fun D code res n => NCk (Nat.ble args.length n) (NOpt (rTrim D ⟨args0 0 args, h⟩ (qrun tab eqs call D fuel code)) fun p => @Prod.rec Ex NS (fun _ => Option (AV × NH)) (qend tab res) p)) q

/-- A function that defers a closure. -/
structure QD where
  D : Nat
  a : List QC
  t : Nat
  caps : List Operand
  y : QC
  res : List ResultVar
  n : Nat
  Dg : Nat
  d0 : Nat
  d1 : Nat
  yg : QC
  ng : Nat

def isNilL {α : Type} : List α → Bool
  | [] => true
  | _ => false

noncomputable def qofD (P : Program) (tab : Tab) (f : FuncId) : Option QD :=
  match P.funcs[f]? with
  | none => none
  | some fn =>
    match fn.body with
    | none => none
    | some x =>
      match splitD x with
      | none => none
      | some d =>
        match P.funcs[d.g]? with
        | none => none
        | some fg =>
          match fg.body with
          | none => none
          | some xg =>
            match splitR xg with
            | none => none
            | some q =>
              match !(fn.name == "runtime.NumGoroutine") && slotsOK fn.ntmps x && !(fg.name == "runtime.NumGoroutine") && slotsOK fg.ntmps xg && isNilL fg.results.toList with
              | false => none
              | true => fN (deadOf fn.ntmps fn.results.toList x) fun D => fN (deadOf fg.ntmps [] xg) fun Dg =>
                some ⟨D, d.a.map (comp tab D), d.t, d.caps, comp tab D d.y, fn.results.toList, fn.ntmps, Dg, q.d0, q.d1, comp tab Dg q.y, fg.ntmps⟩

noncomputable def qgoD3 (tab : Tab) (eqs : TypeId → Bool) (call : CallN) (fuel : Nat) (q : QD) (cs : List AV) (e : Ex) (s3 : NS) : Option (AV × NH) :=
  match e with
  | .exit _ => none
  | _ =>
    match rTrim q.Dg ⟨(q.d1, .t .nili) :: (q.d0, .t .nili) :: args0 0 cs, s3.h⟩ (qrun tab eqs call q.Dg fuel q.yg) with
    | none => none
    | some (e4, s4) =>
      match e4 with
      | .exit _ => none
      | _ => (match nres tab s3.env s4.h.hp.get q.res with | some l => some (tupOf l, s4.h) | none => none)

noncomputable def qgoD (tab : Tab) (eqs : TypeId → Bool) (call : CallN) (fuel : Nat) (args : List AV) (h : NH) (q : QD) : Option (AV × NH) :=
  NCk (Nat.ble args.length q.n)
  (match qruns tab eqs call q.D fuel q.a ⟨ntrim (args0 0 args) q.D, h⟩ with
  | some s1 => fAs (q.caps.map (nopd s1.env)) fun cs => NCk (Nat.ble cs.length q.ng)
    (match qrun tab eqs call q.D fuel q.y ⟨(q.t, .junk) :: s1.env, s1.h⟩ with
    | some (e, s3) => qgoD3 tab eqs call fuel q cs e s3
    | none => none)
  | _ => none)

/-- A call: of what the model itself knows, or of a function's body. -/
noncomputable def qcall (P : Program) (tab : Tab) (eqs : TypeId → Bool) (ext : FuncId → List AV → Option AV) (k : Nat) : CallN :=
  @Nat.rec (fun _ => CallN) (fun _ _ _ => none)
    (fun k go f args h => @Option.rec AV (fun _ => Option (AV × NH)) (@Option.rec QD (fun _ => Option (AV × NH)) (NOpt (qof P tab f) (qgo tab eqs go k args h)) (qgoD tab eqs go k args h) (qofD P tab f)) (fun v => some (v, h)) (ext f args)) k

section
variable {P : Program} {tab : Tab} {eqs : TypeId → Bool} {call : CallN}

theorem qof_spec {f : FuncId} {q : QF} (h : qof P tab f = some q) : ∃ fn x, P.funcs[f]? = some fn ∧ fn.body = some x ∧ (fn.name == "runtime.NumGoroutine") = false ∧ slotsOK fn.ntmps x = true ∧ ∃ D, q = ⟨D, comp tab D x, fn.results.toList, fn.ntmps⟩ := by
  unfold qof at h
  split at h
  · cases h
  · rename_i fn hf
    split at h
    · cases h
    · rename_i x hb
      split at h
      · cases h
      · rename_i hc
        rw [fN_eq] at h
        cases h
        simp only [Bool.and_eq_true, Bool.not_eq_true'] at hc
        exact ⟨fn, x, hf, hb, hc.1, hc.2, _, rfl⟩

theorem qend_spec {res : List ResultVar} {e : Ex} {s : NS} {v : AV} {h' : NH} (h : qend tab res e s = some (v, h')) : (∀ i, e ≠ .exit i) ∧ ∃ l, nres tab s.env s.h.hp.get res = some l ∧ v = tupOf l ∧ h' = s.h := by
  unfold qend at h
  split at h
  · cases h
  · rename_i hne
    split at h
    · rename_i l hl
      cases h
      exact ⟨fun i e => hne i e, l, hl, rfl, rfl⟩
    · cases h

theorem qgo_ok (hT : TabOK P tab) (hm : P.follows .mixedOrders = true) (hC : CallOK P call) (hE : ∀ t y, eqs t = true → tab t = some y → y.eqOK) {fuel : Nat} {f : FuncId} {q : QF} (hq : qof P tab f = some q)
    {args : List AV} {h : NH} {v : AV} {h' : NH} (hh : qgo tab eqs call fuel args h q = some (v, h')) {H : AH} (ha : HA h H) :
    ∃ H', HA h' H' ∧ Stay h'.lo H H' ∧ h'.lo ≤ h.lo ∧ CallS P f args H (fun r H'' => r = v ∧ H'' = H') := by
  obtain ⟨fn, x, hf, hb, hn, hso, D, rfl⟩ := qof_spec hq
  have hh : NCk (Nat.ble args.length fn.ntmps) (NOpt (rTrim D ⟨args0 0 args, h⟩ (qrun tab eqs call D fuel (comp tab D x))) fun p => @Prod.rec Ex NS (fun _ => Option (AV × NH)) (qend tab fn.results.toList) p) = some (v, h') := hh
  rw [nck_iff, nopt_iff, rTrim_eq] at hh
  obtain ⟨hle, ⟨e, s⟩, h1, h2⟩ := hh
  have hle := Nat.le_of_ble_eq_true hle
  obtain ⟨hne, l, h3, rfl, rfl⟩ := qend_spec h2
  obtain ⟨H1, q1⟩ := qrun_ok hT hm hC hE h1 ha (ntrim_JO _ _)
  have d1 := q1.did.weak (env := args0 0 args) (ntrim_weak _ D)
  refine ⟨H1, d1.ha, d1.stay, d1.lo, fun B c w vs hs hl hr => .inl ⟨⟨fn, hf, by rw [hb]; rfl, hn⟩, calls_of_wp hf hb ?_⟩⟩
  let O : Org := ⟨fn.ntmps, B, w, c, H, []⟩
  have hs0 : Sat O c ⟨args0 0 args, H⟩ { tmps := vs ++ Array.replicate (fn.ntmps - vs.size) undef, defers := [] } w := by
    refine ⟨fun t => ?_, hs, by simp [O]; omega, rfl, Ev.refl _ _ _, Below.refl _ _⟩
    rw [args0_lk, if_pos (Nat.zero_le _), Nat.sub_zero]
    simp only [Array.getD_eq_getD_getElem?, List.getD_eq_getElem?_getD]
    by_cases ht : t < args.length
    · rw [Array.getElem?_append_left (by omega)]
      obtain ⟨v, hv⟩ := arr_get (a := vs) (i := t) (by omega)
      have ha : args[t]? = some args[t] := List.getElem?_eq_getElem ht
      rw [hv, ha]
      exact hr t _ v ha hv
    · rw [List.getElem?_eq_none (by omega)]
      exact .junk _
  refine d1.wp (O := O) hso hs0 fun c' a' w' hs' => ?_
  rw [d1.ha.get] at h3
  have hx := nres_ok h3 (fun q => q = l) rfl
  obtain ⟨l2, val, r1, r2, k⟩ := results_ok hT hs' hx
  subst k
  cases e with
  | exit id => exact (hne id rfl).elim
  | normal => exact ⟨hs'.defers, val, r1, val, c', _, H1, rfl, r2, hs'.hs, hs'.ev, hs'.below, rfl, rfl⟩
  | ret => exact ⟨hs'.defers, val, r1, val, c', _, H1, rfl, r2, hs'.hs, hs'.ev, hs'.below, rfl, rfl⟩

theorem qofD_spec {f : FuncId} {q : QD} (h : qofD P tab f = some q) : ∃ fn x d fg xg r, P.funcs[f]? = some fn ∧ fn.body = some x ∧ splitD x = some d ∧ P.funcs[d.g]? = some fg ∧ fg.body = some xg ∧ splitR xg = some r ∧
    (fn.name == "runtime.NumGoroutine") = false ∧ slotsOK fn.ntmps x = true ∧ (fg.name == "runtime.NumGoroutine") = false ∧ slotsOK fg.ntmps xg = true ∧ fg.results.toList = [] ∧
    ∃ D Dg, q = ⟨D, d.a.map (comp tab D), d.t, d.caps, comp tab D d.y, fn.results.toList, fn.ntmps, Dg, r.d0, r.d1, comp tab Dg r.y, fg.ntmps⟩ := by
  unfold qofD at h
  split at h
  · cases h
  rename_i fn hf
  split at h
  · cases h
  rename_i x hb
  split at h
  · cases h
  rename_i d hd
  split at h
  · cases h
  rename_i fg hg
  split at h
  · cases h
  rename_i xg hxg
  split at h
  · cases h
  rename_i r hr
  split at h
  · cases h
  rename_i hc
  simp only [fN_eq] at h
  cases h
  simp only [Bool.and_eq_true, Bool.not_eq_true'] at hc
  obtain ⟨⟨⟨⟨h1, h2⟩, h3⟩, h4⟩, h5⟩ := hc
  refine ⟨fn, x, d, fg, xg, r, hf, hb, hd, hg, hxg, hr, h1, h2, h3, h4, ?_, _, _, rfl⟩
  cases hl : fg.results.toList with
  | nil => rfl
  | cons _ _ => rw [hl] at h5; cases h5

theorem qgoD_ok (hT : TabOK P tab) (hm : P.follows .mixedOrders = true) (hC : CallOK P call) (hE : ∀ t y, eqs t = true → tab t = some y → y.eqOK) {fuel : Nat} {f : FuncId} {q : QD} (hq : qofD P tab f = some q)
    {args : List AV} {h : NH} {v : AV} {h' : NH} (hh : qgoD tab eqs call fuel args h q = some (v, h')) {H : AH} (ha : HA h H) :
    ∃ H', HA h' H' ∧ Stay h'.lo H H' ∧ h'.lo ≤ h.lo ∧ CallS P f args H (fun r H'' => r = v ∧ H'' = H') := by
  obtain ⟨fn, x, d, fg, xg, r, hf, hb, hd, hg, hxg, hr, hn, hso, hng, hsog, hres, D, Dg, rfl⟩ := qofD_spec hq
  obtain ⟨id, ops, rfl, hops⟩ := splitD_spec hd
  obtain ⟨o1, o2, first, cps, cl, hl, a1, a2, a3, b1, b2, b3, c1, c2, c3, c4⟩ := dfOps_spec hops
  obtain rfl := arr_nil c1
  unfold qgoD at hh
  rw [nck_iff] at hh
  obtain ⟨hle, hh⟩ := hh
  have hle : args.length ≤ fn.ntmps := Nat.le_of_ble_eq_true hle
  split at hh
  case h_2 => cases hh
  rename_i s1 h1
  rw [fAs_eq, nck_iff] at hh
  obtain ⟨hlc, hh⟩ := hh
  have hlc : (d.caps.map (nopd s1.env)).length ≤ fg.ntmps := Nat.le_of_ble_eq_true hlc
  rw [nopd_fun] at hlc hh
  split at hh
  case h_2 => cases hh
  rename_i e3 s3 h3
  unfold qgoD3 at hh
  split at hh
  · cases hh
  rename_i hne3
  split at hh
  · cases hh
  rename_i e4 s4 h4
  split at hh
  · cases hh
  rename_i hne4
  split at hh
  case h_2 => cases hh
  rename_i l h5
  cases hh
  -- the three runs
  obtain ⟨H1, d1⟩ := qruns_ok hT hm hC hE h1 ha (ntrim_JO (args0 0 args) D)
  have hj : JO D ((d.t, .junk) :: s1.env) := fun t ht => by
    rw [lk_cons]
    split
    · rfl
    · exact d1.jo t ht
  obtain ⟨H3, q3⟩ := qrun_ok hT hm hC hE h3 d1.ha hj
  have d3 := q3.did
  obtain ⟨H4, ha4, st4, lo4, clo⟩ := closure_ok hT hm hC hE hg hxg hr hres hsog hlc d3.ha h4 (fun i e => hne4 i e)
  refine ⟨H4, ha4, (d1.stay.trans d3.stay d3.lo).trans st4 lo4, Nat.le_trans lo4 (Nat.le_trans d3.lo d1.lo), fun B c w vs hs hvl hvr => .inl ⟨⟨fn, hf, by rw [hb]; rfl, hn⟩, calls_of_wp_defers hf hb ?_⟩⟩
  obtain ⟨hso1, hso⟩ := slots_spine hso
  simp only [slotsOK, Bool.and_eq_true] at hso
  obtain ⟨hso2, hso3⟩ := hso
  rw [hl] at hso2
  simp only [List.all_cons, List.all_nil, Bool.and_eq_true, Bool.and_true] at hso2
  have s0 := sat_start (N := fn.ntmps) hs hle hvl hvr
  refine d1.wp (O := ⟨fn.ntmps, B, w, c, H, []⟩) hso1 (weak_sat s0 (ntrim_weak _ D)) fun c1' a1' w1 hs1 => ?_
  have hw1 : ∀ y, Region.wanted o1 y = true := fun y => by simp [Region.wanted, a1]
  have hw2 : ∀ y, Region.wanted o2 y = true := fun y => by simp [Region.wanted, b1]
  have ht : d.t < a1'.tmps.size := by rw [hs1.size]; exact dstOK_spec hso2.1 _ a2
  have hr1 : (execOp a1'.eval o1).run P w1 = .ok (.value (.func (.func d.g) #[] (cps.map a1'.eval))) w1 := by
    unfold execOp
    rw [a3]
    simp [Instr.makeFunc]
  have hev : (a1'.put (some d.t) (.func (.func d.g) #[] (cps.map a1'.eval))).eval (.tmp d.t) = .func (.func d.g) #[] (cps.map a1'.eval) := by
    show (a1'.tmps.setIfInBounds d.t _).getD d.t undef = _
    simp [Array.getD_eq_getD_getElem?, Array.getElem?_setIfInBounds_self_of_lt ht]
  have hr2 : (execOp (a1'.put (some d.t) (.func (.func d.g) #[] (cps.map a1'.eval))).eval o2).run P w1 = .ok (.defer ⟨.fn (.func d.g) (cps.map a1'.eval), #[]⟩) w1 := by
    unfold execOp
    rw [b3]
    simp [resolve, c3, hev, Deferred.ofValue, arr_nil c4]
  refine wp_seq (wp_region_list ?_)
  rw [hl]
  simp only [wpList, hw1, hw2, if_true]
  refine .inl ?_
  unfold Oper.wp
  rw [hr1, Oper.upon_value, a2]
  refine .inl ?_
  rw [hr2, Oper.upon_defer, b2]
  have p := hs1.putd (some d.t) (by intro k hk; cases hk; exact dstOK_spec hso2.1 _ a2) (v := .junk) (val := .func (.func d.g) #[] (cps.map a1'.eval)) (.junk _)
  have hds : (a1'.put (some d.t) (.func (.func d.g) #[] (cps.map a1'.eval))).defers = [] := p.defers
  have s2 : Sat ⟨fn.ntmps, B, w1, c1', H1, [⟨.fn (.func d.g) (cps.map a1'.eval), #[]⟩]⟩ c1' ⟨(d.t, .junk) :: s1.env, H1⟩ { a1'.put (some d.t) (.func (.func d.g) #[] (cps.map a1'.eval)) with defers := ⟨.fn (.func d.g) (cps.map a1'.eval), #[]⟩ :: (a1'.put (some d.t) (.func (.func d.g) #[] (cps.map a1'.eval))).defers } w1 :=
    ⟨p.env, p.hs, p.size, by rw [hds], Ev.refl _ _ _, Below.refl _ _⟩
  refine d3.wp hso3 s2 fun c3' a3' w3 hs3 => ?_
  have leaves : ∀ R : Ending → World → Prop, (∀ c4' w4 val, (results fn a3'.tmps).run P w4 = .ok val w4 → RA w4 c4' H4 (tupOf l) val → HS w4 c4' H4 B → Ev w c H w4 c4' H4 → Below B w w4 → R (.returned val) w4) → Leaves P fn a3'.tmps R a3'.defers .returning w3 := by
    intro R hR
    rw [hs3.defers]
    refine leaves_cons (f := d.g) (args := cps.map a1'.eval) (by simp) ?_ ?_
    · show (callFunc d.g (#[] ++ cps.map a1'.eval)).run P w3 = _
      rw [Array.empty_append]
      exact run_callFunc ⟨fg, hg, by rw [hxg]; rfl, hng⟩ _ _
    · refine (clo (B := B) (c := c3') (w := w3) hs3.hs (by rw [List.length_map, ← c2]; simp) (fun i a u hi hu => ?_)).mono fun e u' w4 ⟨hu, v4, he, c4', hs4, ev4, bel4⟩ => ?_
      · rw [List.getElem?_map, ← c2, Option.map_eq_some_iff] at hi
        obtain ⟨o, ho, rfl⟩ := hi
        rw [Array.getElem?_map] at hu
        rw [Array.getElem?_toList] at ho
        rw [ho] at hu
        cases hu
        exact (opd_ok hs1.env o).ev hs3.ev
      · subst hu he
        show Leaves P fn a3'.tmps R [] .returning w4
        have s4' : Sat ⟨fn.ntmps, B, w, c, H, [⟨.fn (.func d.g) (cps.map a1'.eval), #[]⟩]⟩ c4' ⟨s3.env, H4⟩ a3' w4 := ⟨fun t => (hs3.env t).ev ev4, hs4, hs3.size, hs3.defers, (hs1.ev.trans hs3.ev).trans ev4, (hs1.below.trans hs3.below).trans bel4⟩
        rw [ha4.get] at h5
        have hx := nres_ok h5 (fun q => q = l) rfl
        obtain ⟨l2, val, r1, r2, k⟩ := results_ok (fn := fn) hT s4' hx
        subst k
        exact ⟨val, r1, hR c4' w4 val r1 r2 hs4 s4'.ev s4'.below⟩
  cases e3 with
  | exit i => exact (hne3 i rfl).elim
  | normal => exact leaves _ fun c4' w4 val r1 r2 e1 e2 e3 => ⟨val, c4', _, H4, rfl, r2, e1, e2, e3, rfl, rfl⟩
  | ret => exact leaves _ fun c4' w4 val r1 r2 e1 e2 e3 => ⟨val, c4', _, H4, rfl, r2, e1, e2, e3, rfl, rfl⟩

theorem qcall_ok (hT : TabOK P tab) (hm : P.follows .mixedOrders = true) (hE : ∀ t y, eqs t = true → tab t = some y → y.eqOK) {ext : FuncId → List AV → Option AV}
    (hX : ∀ {f : FuncId} {args : List AV} {v : AV}, ext f args = some v → ∀ H, CallS P f args H (fun r H' => r = v ∧ H' = H)) : ∀ k, CallOK P (qcall P tab eqs ext k)
  | 0 => by intro hh; cases hh
  | k + 1 => by
    intro hh H ha
    rename_i f args h v h'
    have hh : @Option.rec AV (fun _ => Option (AV × NH)) (@Option.rec QD (fun _ => Option (AV × NH)) (NOpt (qof P tab f) (qgo tab eqs (qcall P tab eqs ext k) k args h)) (qgoD tab eqs (qcall P tab eqs ext k) k args h) (qofD P tab f)) (fun v => some (v, h)) (ext f args) = some (v, h') := hh
    cases hx : ext f args with
    | some v1 =>
      rw [hx] at hh
      cases hh
      exact ⟨H, ha, Stay.refl _ _, Nat.le_refl _, hX hx H⟩
    | none =>
      rw [hx] at hh
      cases hd : qofD P tab f with
      | some d =>
        rw [hd] at hh
        exact qgoD_ok hT hm (qcall_ok hT hm hE hX k) hE hd hh ha
      | none =>
      rw [hd] at hh
      have hh : NOpt (qof P tab f) (qgo tab eqs (qcall P tab eqs ext k) k args h) = some (v, h') := hh
      rw [nopt_iff] at hh
      obtain ⟨q, hq, hh⟩ := hh
      exact qgo_ok hT hm (qcall_ok hT hm hE hX k) hE hq hh ha

noncomputable def qIs (b : Bool) (p : Option (AV × NH)) : Bool :=
  match p with
  | some (.t (.bool c), _) => c == b
  | _ => false

/-- A call without unknowns whose outcome is data: its contract. -/
theorem Runs.of_qcall (hT : TabOK P tab) (hm : P.follows .mixedOrders = true) (hE : ∀ t y, eqs t = true → tab t = some y → y.eqOK) {ext : FuncId → List AV → Option AV}
    (hX : ∀ {f : FuncId} {args : List AV} {v : AV}, ext f args = some v → ∀ H, CallS P f args H (fun r H' => r = v ∧ H' = H)) {k : Nat} {f : FuncId} {b : Bool}
    (h : qIs b (qcall P tab eqs ext k f [] ⟨.leaf, 0, 0⟩) = true) : Runs P f [] (.t (.bool b)) := by
  unfold qIs at h
  split at h
  · rename_i c h' hh
    obtain ⟨H', _, _, _, hc⟩ := qcall_ok hT hm hE hX k hh (H := []) ⟨rfl, funext fun b => by simp [Tr.get_leaf]⟩
    obtain rfl := eq_of_beq h
    refine Runs.of_call ?_ rfl
    refine CallS.mono hc fun r H'' ⟨e1, e2⟩ => ?_
    subst e1
    exact ⟨rfl, rfl⟩
  · cases h

end
end Go.Proofs.YthpkehhghcpolaaDoor
