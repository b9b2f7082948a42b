/-
  Functions of the fast engine, and contracts of closed runs.
-/
import Derived.Test.YtndndphafpgpfaaGreatDoorQCode
namespace Go.Proofs.YtndndphafpgpfaaGreatDoor
open Go.RowKit
set_option linter.unusedVariables false
set_option linter.unusedSimpArgs false

/-! ### Slots that outlive a region -/

def slotBit : Operand → Nat
  | .tmp t => Nat.shiftLeft 1 t
  | _ => 0

def rdBits : List Operand → Nat
  | [] => 0
  | x :: r => Nat.lor (slotBit x) (rdBits r)

/-- Of a region: what it reads before it wrote it ('e'), where 'm' is what was written and 'a' all that may be asked. -/
def expo (ops : Array Oper) (a : Nat) : List Oper → Nat → Nat → Nat
  | [], m, e => e
  | o :: r, m, e =>
    let rd := Nat.lor (rdBits (opnds o.op)) (rdBits (gdSlot ops o))
    let e := Nat.lor e (Nat.land rd (Nat.xor a (Nat.land a m)))
    let m := (match o.dst with | some d => Nat.lor m (Nat.shiftLeft 1 d) | none => m)
    expo ops a r m e

def liveC (a : Nat) : Code → Nat
  | .seq x y => Nat.lor (liveC a x) (liveC a y)
  | .cond c x y => Nat.lor (slotBit c) (Nat.lor (liveC a x) (liveC a y))
  | .block _ x => liveC a x
  | .loop x => liveC a x
  | .region _ ops _ => expo ops a ops.toList 0 0
  | _ => 0

def liveR : List ResultVar → Nat
  | [] => 0
  | .tmp t :: r => Nat.lor (Nat.shiftLeft 1 t) (liveR r)
  | .cell t _ :: r => Nat.lor (Nat.shiftLeft 1 t) (liveR r)

def deadOf (n : Nat) (res : List ResultVar) (x : Code) : Nat :=
  let a := Nat.sub (Nat.shiftLeft 1 n) 1
  Nat.xor a (Nat.land a (Nat.lor (liveC a x) (liveR res)))

structure QF where
  D : Nat
  code : QC
  res : List ResultVar
  n : Nat

noncomputable def qof (P : Program) (tab : Tab) (f : FuncId) : Option QF :=
  match P.funcs[f]? with
  | none => none
  | some fn =>
    match fn.body with
    | none => none
    | some x =>
      match !(fn.name == "runtime.NumGoroutine") && slotsOK fn.ntmps x with
      | false => none
      | true => fN (deadOf fn.ntmps fn.results.toList x) fun D => some ⟨D, comp tab D x, fn.results.toList, fn.ntmps⟩

noncomputable def qend (tab : Tab) (res : List ResultVar) (e : Ex) (s : NS) : Option (AV × NH) :=
  match e with
  | .exit _ => none
  | _ => (match nres tab s.env s.h.hp.get res with | some l => some (tupOf l, s.h) | none => none)

noncomputable def qgo (tab : Tab) (eqs : TypeId → Bool) (call : CallN) (fuel : Nat) (args : List AV) (h : NH) (q : QF) : Option (AV × NH) :=
  @QF.rec (fun _ => Option (AV × NH)) (fun D code res n => NCk (Nat.ble args.length n) (NOpt (rTrim D ⟨args0 0 args, h⟩ (qrun tab eqs call D fuel code)) fun p => @Prod.rec Ex NS (fun _ => Option (AV × NH)) (qend tab res) p)) q

/-- A call: of what the model itself knows, or of a function's body. -/
noncomputable def qcall (P : Program) (tab : Tab) (eqs : TypeId → Bool) (ext : FuncId → List AV → Option AV) (k : Nat) : CallN :=
  @Nat.rec (fun _ => CallN) (fun _ _ _ => none)
    (fun k go f args h => @Option.rec AV (fun _ => Option (AV × NH)) (NOpt (qof P tab f) (qgo tab eqs go k args h)) (fun v => some (v, h)) (ext f args)) k

section
variable {P : Program} {tab : Tab} {eqs : TypeId → Bool} {call : CallN}

theorem qof_spec {f : FuncId} {q : QF} (h : qof P tab f = some q) : ∃ fn x, P.funcs[f]? = some fn ∧ fn.body = some x ∧ (fn.name == "runtime.NumGoroutine") = false ∧ slotsOK fn.ntmps x = true ∧ ∃ D, q = ⟨D, comp tab D x, fn.results.toList, fn.ntmps⟩ := by
  unfold qof at h
  split at h
  · cases h
  · rename_i fn hf
    split at h
    · cases h
    · rename_i x hb
      split at h
      · cases h
      · rename_i hc
        rw [fN_eq] at h
        cases h
        simp only [Bool.and_eq_true, Bool.not_eq_true'] at hc
        exact ⟨fn, x, hf, hb, hc.1, hc.2, _, rfl⟩

theorem qend_spec {res : List ResultVar} {e : Ex} {s : NS} {v : AV} {h' : NH} (h : qend tab res e s = some (v, h')) : (∀ i, e ≠ .exit i) ∧ ∃ l, nres tab s.env s.h.hp.get res = some l ∧ v = tupOf l ∧ h' = s.h := by
  unfold qend at h
  split at h
  · cases h
  · rename_i hne
    split at h
    · rename_i l hl
      cases h
      exact ⟨fun i e => hne i e, l, hl, rfl, rfl⟩
    · cases h

theorem qgo_ok (hT : TabOK P tab) (hm : P.follows .mixedOrders = true) (hC : CallOK P call) (hE : ∀ t y, eqs t = true → tab t = some y → y.eqOK) {fuel : Nat} {f : FuncId} {q : QF} (hq : qof P tab f = some q)
    {args : List AV} {h : NH} {v : AV} {h' : NH} (hh : qgo tab eqs call fuel args h q = some (v, h')) {H : AH} (ha : HA h H) :
    ∃ H', HA h' H' ∧ Stay h'.lo H H' ∧ h'.lo ≤ h.lo ∧ CallS P f args H (fun r H'' => r = v ∧ H'' = H') := by
  obtain ⟨fn, x, hf, hb, hn, hso, D, rfl⟩ := qof_spec hq
  have hh : NCk (Nat.ble args.length fn.ntmps) (NOpt (rTrim D ⟨args0 0 args, h⟩ (qrun tab eqs call D fuel (comp tab D x))) fun p => @Prod.rec Ex NS (fun _ => Option (AV × NH)) (qend tab fn.results.toList) p) = some (v, h') := hh
  rw [nck_iff, nopt_iff, rTrim_eq] at hh
  obtain ⟨hle, ⟨e, s⟩, h1, h2⟩ := hh
  have hle := Nat.le_of_ble_eq_true hle
  obtain ⟨hne, l, h3, rfl, rfl⟩ := qend_spec h2
  obtain ⟨H1, q1⟩ := qrun_ok hT hm hC hE h1 ha (ntrim_JO _ _)
  have d1 := q1.did.weak (env := args0 0 args) (ntrim_weak _ D)
  refine ⟨H1, d1.ha, d1.stay, d1.lo, fun B c w vs hs hl hr => .inl ⟨⟨fn, hf, by rw [hb]; rfl, hn⟩, calls_of_wp hf hb ?_⟩⟩
  let O : Org := ⟨fn.ntmps, B, w, c, H, []⟩
  have hs0 : Sat O c ⟨args0 0 args, H⟩ { tmps := vs ++ Array.replicate (fn.ntmps - vs.size) undef, defers := [] } w := by
    refine ⟨fun t => ?_, hs, by simp [O]; omega, rfl, Ev.refl _ _ _, Below.refl _ _⟩
    rw [args0_lk, if_pos (Nat.zero_le _), Nat.sub_zero]
    simp only [Array.getD_eq_getD_getElem?, List.getD_eq_getElem?_getD]
    by_cases ht : t < args.length
    · rw [Array.getElem?_append_left (by omega)]
      obtain ⟨v, hv⟩ := arr_get (a := vs) (i := t) (by omega)
      have ha : args[t]? = some args[t] := List.getElem?_eq_getElem ht
      rw [hv, ha]
      exact hr t _ v ha hv
    · rw [List.getElem?_eq_none (by omega)]
      exact .junk _
  refine d1.wp (O := O) hso hs0 fun c' a' w' hs' => ?_
  rw [d1.ha.get] at h3
  have hx := nres_ok h3 (fun q => q = l) rfl
  obtain ⟨l2, val, r1, r2, k⟩ := results_ok hT hs' hx
  subst k
  cases e with
  | exit id => exact (hne id rfl).elim
  | normal => exact ⟨hs'.defers, val, r1, val, c', _, H1, rfl, r2, hs'.hs, hs'.ev, hs'.below, rfl, rfl⟩
  | ret => exact ⟨hs'.defers, val, r1, val, c', _, H1, rfl, r2, hs'.hs, hs'.ev, hs'.below, rfl, rfl⟩

theorem qcall_ok (hT : TabOK P tab) (hm : P.follows .mixedOrders = true) (hE : ∀ t y, eqs t = true → tab t = some y → y.eqOK) {ext : FuncId → List AV → Option AV}
    (hX : ∀ {f : FuncId} {args : List AV} {v : AV}, ext f args = some v → ∀ H, CallS P f args H (fun r H' => r = v ∧ H' = H)) : ∀ k, CallOK P (qcall P tab eqs ext k)
  | 0 => by intro hh; cases hh
  | k + 1 => by
    intro hh H ha
    rename_i f args h v h'
    have hh : @Option.rec AV (fun _ => Option (AV × NH)) (NOpt (qof P tab f) (qgo tab eqs (qcall P tab eqs ext k) k args h)) (fun v => some (v, h)) (ext f args) = some (v, h') := hh
    cases hx : ext f args with
    | some v1 =>
      rw [hx] at hh
      cases hh
      exact ⟨H, ha, Stay.refl _ _, Nat.le_refl _, hX hx H⟩
    | none =>
      rw [hx] at hh
      have hh : NOpt (qof P tab f) (qgo tab eqs (qcall P tab eqs ext k) k args h) = some (v, h') := hh
      rw [nopt_iff] at hh
      obtain ⟨q, hq, hh⟩ := hh
      exact qgo_ok hT hm (qcall_ok hT hm hE hX k) hE hq hh ha

noncomputable def qIs (b : Bool) (p : Option (AV × NH)) : Bool :=
  match p with
  | some (.t (.bool c), _) => c == b
  | _ => false

/-- A call without unknowns whose outcome is data: its contract. -/
theorem Runs.of_qcall (hT : TabOK P tab) (hm : P.follows .mixedOrders = true) (hE : ∀ t y, eqs t = true → tab t = some y → y.eqOK) {ext : FuncId → List AV → Option AV}
    (hX : ∀ {f : FuncId} {args : List AV} {v : AV}, ext f args = some v → ∀ H, CallS P f args H (fun r H' => r = v ∧ H' = H)) {k : Nat} {f : FuncId} {b : Bool}
    (h : qIs b (qcall P tab eqs ext k f [] ⟨.leaf, 0, 0⟩) = true) : Runs P f [] (.t (.bool b)) := by
  unfold qIs at h
  split at h
  · rename_i c h' hh
    obtain ⟨H', _, _, _, hc⟩ := qcall_ok hT hm hE hX k hh (H := []) ⟨rfl, funext fun b => by simp [Tr.get_leaf]⟩
    obtain rfl := eq_of_beq h
    refine Runs.of_call ?_ rfl
    refine CallS.mono hc fun r H'' ⟨e1, e2⟩ => ?_
    subst e1
    exact ⟨rfl, rfl⟩
  · cases h

end
end Go.Proofs.YtndndphafpgpfaaGreatDoor
