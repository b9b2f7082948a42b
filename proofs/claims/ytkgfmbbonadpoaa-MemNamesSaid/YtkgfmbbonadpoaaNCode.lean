/-
  Regions, pieces of code, functions of a run without unknowns: what the kernel reckons, the model does.
-/
import Derived.Test.YtkgfmbbonadpoaaNRun
import Derived.Test.YtkgfmbbonadpoaaDraw5
namespace Go.Proofs.Ytkgfmbbonadpoaa
open Go.RowKit
set_option linter.unusedVariables false
set_option linter.unusedSimpArgs false

/-! ### Regions -/

/-- One operation, or none, as its guard says. -/
noncomputable def ngd (tab : Tab) (eqs : TypeId → Bool) (call : CallN) (ops : Array Oper) (o : Oper) (s : NS) : Option NS :=
  match o.guard with
  | none => nop tab eqs call o s.env s.h
  | some (j, want) =>
    match guardSlot ops j with
    | none => none
    | some d =>
      match nlk s.env d with
      | .t (.bool c) =>
        (match want, c with
        | true, true => nop tab eqs call o ((d, .t (.bool true)) :: s.env) s.h
        | true, false => nstp o.dst ((d, .t (.bool false)) :: s.env) s.h (.tup []) .no
        | false, true => nstp o.dst ((d, .t (.bool true)) :: s.env) s.h (.tup []) .no
        | false, false => nop tab eqs call o ((d, .t (.bool false)) :: s.env) s.h)
      | .tup [] => nstp o.dst s.env s.h (.tup []) .no
      | _ => none

noncomputable def nops (tab : Tab) (eqs : TypeId → Bool) (call : CallN) (ops : Array Oper) : List Oper → NS → Option NS
  | [], s => some s
  | o :: r, s =>
    match ngd tab eqs call ops o s with
    | some s' => nops tab eqs call ops r s'
    | none => none

/-- An order in which a region can be walked: reads early. -/
def nsig1 (rd : Nat → Bool) (dm am : List Nat) (n : Nat) : Nat → Nat → List (Nat × Bool)
  | 0, _ => []
  | f + 1, done =>
    let ready := (List.range n).filter fun k => !done.testBit k && Nat.beq (Nat.land (dm.getD k 0) done) (dm.getD k 0)
    match ready.find? rd with
    | some k => (k, false) :: nsig1 rd dm am n f (Nat.lor done (Nat.shiftLeft 1 k))
    | none =>
      match ready with
      | k :: _ => (k, Nat.beq (Nat.land done (am.getD k 0)) done) :: nsig1 rd dm am n f (Nat.lor done (Nat.shiftLeft 1 k))
      | [] => []

def bit1 : List Nat → Nat
  | [] => 0
  | j :: r => Nat.lor (Nat.shiftLeft 1 j) (bit1 r)

def nsig (ops : Array Oper) : List (Nat × Bool) :=
  nsig1 (fun k => match ops[k]? with | some o => isRd o || isMk o | none => false) (ops.toList.map fun o => bit1 (binders o)) (masks ops) ops.size ops.size 0

/-- A region that draws its order. -/
noncomputable def ndr (tab : Tab) (eqs : TypeId → Bool) (call : CallN) (ops : Array Oper) : List (Nat × Bool) → NS → Option NS
  | [], s => some s
  | (i, fl) :: r, s =>
    match ops[i]? with
    | none => none
    | some o =>
      match isRd o || isMk o || fl with
      | true => (match ngd tab eqs call ops o s with | some s' => ndr tab eqs call ops r s' | none => none)
      | false =>
        match ngd tab eqs call ops o ⟨s.env, ⟨s.h.hp, s.h.len, s.h.len⟩⟩ with
        | some s' => (match Nat.ble s.h.len s'.h.lo with
          | true => ndr tab eqs call ops r ⟨s'.env, ⟨s'.h.hp, s'.h.len, s.h.lo⟩⟩
          | false => none)
        | none => none

/-! ### Code -/

/-- Of each slot the last that it was given. -/
noncomputable def ntrim (env : List (Nat × AV)) : Nat → List (Nat × AV) :=
  @List.rec (Nat × AV) (fun _ => Nat → List (Nat × AV)) (fun _ => []) (fun p _ go m => @Bool.rec (fun _ => List (Nat × AV)) (p :: go (Nat.lor m (Nat.shiftLeft 1 p.1))) (go m) (Nat.testBit m p.1)) env

noncomputable def nloop : Nat → (NS → Option (Ex × NS)) → NS → Option (Ex × NS)
  | 0, _, _ => none
  | n + 1, f, s =>
    match fL (ntrim s.env 0) fun env => f ⟨env, s.h⟩ with
    | some (.normal, s') => nloop n f s'
    | some (.exit i, s') => some (.exit i, s')
    | some (.ret, s') => some (.ret, s')
    | none => none

noncomputable def ncode (tab : Tab) (eqs : TypeId → Bool) (call : CallN) (fuel : Nat) : Code → NS → Option (Ex × NS)
  | .skip, s => some (.normal, s)
  | .seq x y, s =>
    match ncode tab eqs call fuel x s with
    | some (.normal, s') => ncode tab eqs call fuel y s'
    | some (.exit i, s') => some (.exit i, s')
    | some (.ret, s') => some (.ret, s')
    | none => none
  | .cond c x y, s =>
    match nopd s.env c with
    | .t (.bool t) => (match t with | true => ncode tab eqs call fuel x s | false => ncode tab eqs call fuel y s)
    | _ => none
  | .block id x, s =>
    match ncode tab eqs call fuel x s with
    | some (.normal, s') => some (.normal, s')
    | some (.exit i, s') => (match Nat.beq i id with | true => some (.normal, s') | false => some (.exit i, s'))
    | some (.ret, s') => some (.ret, s')
    | none => none
  | .loop x, s => nloop fuel (ncode tab eqs call fuel x) s
  | .exit id, s => some (.exit id, s)
  | .ret, s => some (.ret, s)
  | .region _ ops draw, s =>
    match draw with
    | false => (match nops tab eqs call ops ops.toList s with | some s' => some (.normal, s') | none => none)
    | true =>
      match drawOK ops (masks ops) (nsig ops) [] with
      | true => (match ndr tab eqs call ops (nsig ops) s with | some s' => some (.normal, s') | none => none)
      | false => none
  | _, _ => none

/-- What a function hands back. -/
noncomputable def nres (tab : Tab) (env : List (Nat × AV)) (get : Nat → Option Blk) : List ResultVar → Option (List AV)
  | [] => some []
  | .tmp t :: r => (match nres tab env get r with | some l => some (nlk env t :: l) | none => none)
  | .cell a ty :: r => nload tab ty get (nlk env a) fun v => (match nres tab env get r with | some l => some (v :: l) | none => none)

noncomputable def nfn (tab : Tab) (eqs : TypeId → Bool) (call : CallN) (fuel : Nat) (fn : Func) (x : Code) (args : List AV) (h : NH) : Option (AV × NH) :=
  match Nat.ble args.length fn.ntmps && slotsOK fn.ntmps x with
  | false => none
  | true =>
    match ncode tab eqs call fuel x ⟨args0 0 args, h⟩ with
    | some (.exit _, _) => none
    | some (_, s) => (match nres tab s.env s.h.hp.get fn.results.toList with | some l => some (tupOf l, s.h) | none => none)
    | none => none

/-- A call: of what the model itself knows, or of a function's body. -/
noncomputable def ncall (P : Program) (tab : Tab) (eqs : TypeId → Bool) (ext : FuncId → List AV → Option AV) : Nat → CallN
  | 0, _, _, _ => none
  | k + 1, f, args, h =>
    match ext f args with
    | some v => some (v, h)
    | none =>
      match P.funcs[f]? with
      | none => none
      | some fn =>
        match fn.body with
        | none => none
        | some x =>
          match fn.name == "runtime.NumGoroutine" with
          | true => none
          | false => nfn tab eqs (ncall P tab eqs ext k) k fn x args h

section
variable {P : Program} {tab : Tab} {eqs : TypeId → Bool} {call : CallN}

theorem putSt (d : Option Tmp) (v : AV) (env : List (Nat × AV)) (H H0 : AH) : (St.mk env H0).put d v H = ⟨nput d v env, H⟩ := by cases d <;> rfl

/-- What a piece of a region says. -/
structure Went (h : NH) (H : AH) (s' : NS) (X : (St → Prop) → Prop) (H' : AH) : Prop where
  ha : HA s'.h H'
  stay : Stay s'.h.lo H H'
  lo : s'.h.lo ≤ h.lo
  x : ∀ K : St → Prop, K ⟨s'.env, H'⟩ → X K

theorem skip_ok {d : Option Tmp} {env : List (Nat × AV)} {h : NH} {H : AH} (ha : HA h H) {s' : NS} (hh : nstp d env h (.tup []) .no = some s') : Went h H s' (fun K => K ⟨nput d (.tup []) env, H⟩) H := by
  obtain ⟨h1, h2, h3, h4⟩ := nstp_ok hh ha
  exact ⟨h2, h3, h4, fun K k => by rw [← h1]; exact k⟩

theorem run_ok (hC : CallOK P call) (hE : ∀ t y, eqs t = true → tab t = some y → y.eqOK) {o : Oper} {env : List (Nat × AV)} {h : NH} {H : AH} (ha : HA h H) {s' : NS} (hh : nop tab eqs call o env h = some s') :
    ∃ H', Went h H s' (fun K => xop tab (CallS P) o env H fun v H'' => K ⟨nput o.dst v env, H''⟩) H' := by
  obtain ⟨v, H', hst⟩ := nop_ok hC hE ha hh
  exact ⟨H', hst.ha, hst.stay, hst.lo, fun K k => hst.x _ (by rw [← hst.env]; exact k)⟩

theorem ngd_ok (hC : CallOK P call) (hE : ∀ t y, eqs t = true → tab t = some y → y.eqOK) {ops : Array Oper} {o : Oper} {s : NS} {H : AH} (ha : HA s.h H) {s' : NS} (hh : ngd tab eqs call ops o s = some s') :
    ∃ H', Went s.h H s' (fun K => xguard tab (CallS P) ops o ⟨s.env, H⟩ K) H' := by
  obtain ⟨env, h⟩ := s
  unfold ngd at hh
  simp only at hh ha ⊢
  split at hh
  · rename_i hg
    obtain ⟨H', w⟩ := run_ok hC hE ha hh
    exact ⟨H', w.ha, w.stay, w.lo, fun K k => by simp only [xguard, hg, stp_eq, putSt]; exact w.x K k⟩
  · rename_i j want hg
    split at hh
    · cases hh
    · rename_i d hd
      rw [nlk_eq] at hh
      split at hh
      · rename_i c hl
        split at hh
        · obtain ⟨H', w⟩ := run_ok hC hE ha hh
          exact ⟨H', w.ha, w.stay, w.lo, fun K k => by simp only [xguard, hg]; refine opt_intro hd ?_; rw [hl]; simp only [stp_eq, putSt]; exact w.x K k⟩
        · have w := skip_ok ha hh
          exact ⟨H, w.ha, w.stay, w.lo, fun K k => by simp only [xguard, hg]; refine opt_intro hd ?_; rw [hl]; simp only [stp_eq, putSt]; exact w.x K k⟩
        · have w := skip_ok ha hh
          exact ⟨H, w.ha, w.stay, w.lo, fun K k => by simp only [xguard, hg]; refine opt_intro hd ?_; rw [hl]; simp only [stp_eq, putSt]; exact w.x K k⟩
        · obtain ⟨H', w⟩ := run_ok hC hE ha hh
          exact ⟨H', w.ha, w.stay, w.lo, fun K k => by simp only [xguard, hg]; refine opt_intro hd ?_; rw [hl]; simp only [stp_eq, putSt]; exact w.x K k⟩
      · rename_i hl
        have w := skip_ok ha hh
        exact ⟨H, w.ha, w.stay, w.lo, fun K k => by simp only [xguard, hg]; refine opt_intro hd ?_; rw [hl]; simp only [stp_eq, putSt]; exact w.x K k⟩
      · cases hh

theorem nops_ok (hC : CallOK P call) (hE : ∀ t y, eqs t = true → tab t = some y → y.eqOK) {ops : Array Oper} : ∀ {l : List Oper} {s : NS} {H : AH} {s' : NS}, nops tab eqs call ops l s = some s' → HA s.h H →
    ∃ H', Went s.h H s' (fun K => xops tab (CallS P) ops l ⟨s.env, H⟩ K) H'
  | [], s, H, s', hh, ha => by
    cases hh
    exact ⟨H, ha, Stay.refl _ _, Nat.le_refl _, fun K k => k⟩
  | o :: r, s, H, s', hh, ha => by
    unfold nops at hh
    split at hh
    · rename_i s1 h1
      obtain ⟨H1, w1⟩ := ngd_ok hC hE ha h1
      obtain ⟨H2, w2⟩ := nops_ok hC hE hh w1.ha
      exact ⟨H2, w2.ha, w1.stay.trans w2.stay w2.lo, Nat.le_trans w2.lo w1.lo, fun K k => w1.x _ (w2.x K k)⟩
    · cases hh

/-- What only reads, reads. -/
theorem xop_rd {o : Oper} {env : List (Nat × AV)} {H : AH} {K : AV → AH → Prop} (hr : isRd o = true) (h : xop tab (CallS P) o env H K) : xread tab o env H fun v => K v H := by
  unfold xop at h
  unfold xread
  unfold isRd at hr
  generalize o.op = p at h hr ⊢
  cases p <;> simp only at hr h ⊢ <;> first | exact h | (cases hr; done) | skip
  rename_i c
  unfold xcall at h
  generalize c.callee = cc at h hr ⊢
  cases cc <;> first | (cases hr; done) | skip
  rename_i b
  cases b <;> simp only at hr h ⊢ <;> first | (cases hr; done) | skip
  all_goals
    split at h <;> first | (cases h; done) | skip
    all_goals simp_all

theorem LeX.stay {H H' : AH} {lo : Nat} (h : Stay lo H H') (hl : H.length ≤ lo) : LeX [] H H' := fun b blk hb => by
  have hlt := lt_of_getElem? hb
  exact .inr ((h.at_ b (Nat.lt_of_lt_of_le hlt hl) hlt).trans hb)

theorem read_ok (hC : CallOK P call) (hE : ∀ t y, eqs t = true → tab t = some y → y.eqOK) {o : Oper} {env : List (Nat × AV)} {h : NH} {H : AH} (ha : HA h H) {s' : NS} (hr : isRd o = true) (hh : nop tab eqs call o env h = some s') :
    Went h H s' (fun K => xread tab o env H fun v => K ⟨nput o.dst v env, H⟩) H := by
  obtain ⟨v, H', hst⟩ := nop_ok hC hE ha hh
  have h1 := xop_rd hr (hst.x (fun v'' H'' => v'' = v ∧ H'' = H') ⟨rfl, rfl⟩)
  obtain ⟨v2, h2, h3, h4⟩ := d_read.ex h1
  subst h3 h4
  exact ⟨hst.ha, hst.stay, hst.lo, fun K k => d_read.mono (fun a ⟨e1, _⟩ => by rw [e1, ← hst.env]; exact k) h1⟩

theorem ngr_ok (hC : CallOK P call) (hE : ∀ t y, eqs t = true → tab t = some y → y.eqOK) {ops : Array Oper} {o : Oper} {s : NS} {H : AH} (ha : HA s.h H) {s' : NS} (hr : isRd o = true) (hh : ngd tab eqs call ops o s = some s') :
    Went s.h H s' (fun K => xgR tab ops [] o ⟨s.env, H⟩ K) H := by
  obtain ⟨env, h⟩ := s
  unfold ngd at hh
  simp only at hh ha ⊢
  split at hh
  · rename_i hg
    have w := read_ok hC hE ha hr hh
    exact ⟨w.ha, w.stay, w.lo, fun K k => by simp only [xgR, hg, stp_eq, putSt]; exact w.x K k⟩
  · rename_i j want hg
    split at hh
    · cases hh
    · rename_i d hd
      rw [nlk_eq] at hh
      split at hh
      · rename_i c hl
        split at hh
        · have w := read_ok hC hE ha hr hh
          exact ⟨w.ha, w.stay, w.lo, fun K k => by simp only [xgR, hg]; refine opt_intro hd ?_; rw [hl]; simp only [stp_eq, putSt]; exact w.x K k⟩
        · have w := skip_ok ha hh
          exact ⟨w.ha, w.stay, w.lo, fun K k => by simp only [xgR, hg]; refine opt_intro hd ?_; rw [hl]; simp only [stp_eq, putSt]; exact w.x K k⟩
        · have w := skip_ok ha hh
          exact ⟨w.ha, w.stay, w.lo, fun K k => by simp only [xgR, hg]; refine opt_intro hd ?_; rw [hl]; simp only [stp_eq, putSt]; exact w.x K k⟩
        · have w := read_ok hC hE ha hr hh
          exact ⟨w.ha, w.stay, w.lo, fun K k => by simp only [xgR, hg]; refine opt_intro hd ?_; rw [hl]; simp only [stp_eq, putSt]; exact w.x K k⟩
      · rename_i hl
        have w := skip_ok ha hh
        exact ⟨w.ha, w.stay, w.lo, fun K k => by simp only [xgR, hg]; refine opt_intro hd ?_; rw [hl]; simp only [stp_eq, putSt]; exact w.x K k⟩
      · cases hh

theorem ndr_ok (hC : CallOK P call) (hE : ∀ t y, eqs t = true → tab t = some y → y.eqOK) {ops : Array Oper} : ∀ {l : List (Nat × Bool)} {s : NS} {H : AH} {s' : NS}, ndr tab eqs call ops l s = some s' → HA s.h H →
    ∃ H', Went s.h H s' (fun K => xdr tab (CallS P) ops [] l ⟨s.env, H⟩ K) H'
  | [], s, H, s', hh, ha => by
    cases hh
    exact ⟨H, ha, Stay.refl _ _, Nat.le_refl _, fun K k => k⟩
  | (i, fl) :: r, s, H, s', hh, ha => by
    unfold ndr at hh
    split at hh
    · cases hh
    · rename_i o ho
      cases hrd : isRd o with
      | true =>
        simp only [hrd, Bool.true_or] at hh
        split at hh
        · rename_i s1 h1
          have w1 := ngr_ok hC hE ha hrd h1
          obtain ⟨H2, w2⟩ := ndr_ok hC hE hh w1.ha
          refine ⟨H2, w2.ha, w1.stay.trans w2.stay w2.lo, Nat.le_trans w2.lo w1.lo, fun K k => ?_⟩
          unfold xdr
          refine opt_intro ho ?_
          rw [hrd]
          exact w1.x _ (w2.x K k)
        · cases hh
      | false =>
        cases hmk : isMk o with
        | true =>
          simp only [hrd, hmk, Bool.or_true, Bool.true_or] at hh
          split at hh
          · rename_i s1 h1
            obtain ⟨H1, w1⟩ := ngd_ok hC hE ha h1
            obtain ⟨H2, w2⟩ := ndr_ok hC hE hh w1.ha
            refine ⟨H2, w2.ha, w1.stay.trans w2.stay w2.lo, Nat.le_trans w2.lo w1.lo, fun K k => ?_⟩
            unfold xdr
            refine opt_intro ho ?_
            rw [hrd]
            simp only
            rw [hmk]
            exact ck_intro rfl (w1.x _ (w2.x K k))
          · cases hh
        | false =>
          cases fl with
          | true =>
            simp only [hrd, hmk, Bool.or_true] at hh
            split at hh
            · rename_i s1 h1
              obtain ⟨H1, w1⟩ := ngd_ok hC hE ha h1
              obtain ⟨H2, w2⟩ := ndr_ok hC hE hh w1.ha
              refine ⟨H2, w2.ha, w1.stay.trans w2.stay w2.lo, Nat.le_trans w2.lo w1.lo, fun K k => ?_⟩
              unfold xdr
              refine opt_intro ho ?_
              rw [hrd]
              simp only
              rw [hmk]
              exact w1.x _ (w2.x K k)
            · cases hh
          | false =>
            simp only [hrd, hmk, Bool.or_false] at hh
            split at hh
            · rename_i s1 h1
              obtain ⟨H1, w1⟩ := ngd_ok hC hE (s := ⟨s.env, ⟨s.h.hp, s.h.len, s.h.len⟩⟩) (H := H) ⟨ha.len, ha.get⟩ h1
              split at hh
              · rename_i hble
                have hle : s.h.len ≤ s1.h.lo := Nat.le_of_ble_eq_true hble
                have hlx : LeX [] H H1 := LeX.stay w1.stay (by rw [ha.len]; exact hle)
                have st1 : Stay s.h.lo H H1 := ⟨w1.stay.len, fun b _ hb => w1.stay.at_ b (by have := ha.len; omega) hb⟩
                obtain ⟨H2, w2⟩ := ndr_ok hC hE (H := H1) hh ⟨w1.ha.len, w1.ha.get⟩
                refine ⟨H2, w2.ha, st1.trans w2.stay w2.lo, w2.lo, fun K k => ?_⟩
                unfold xdr
                refine opt_intro ho ?_
                rw [hrd]
                simp only
                rw [hmk]
                exact w1.x _ ⟨hlx, w2.x K k⟩
              · cases hh
            · cases hh

/-! ### Code -/

theorem ntrim_lk : ∀ (env : List (Nat × AV)) (m t : Nat), m.testBit t = false → lk (ntrim env m) t = lk env t
  | [], m, t, h => rfl
  | (d, v) :: r, m, t, h => by
    show lk (@Bool.rec (fun _ => List (Nat × AV)) ((d, v) :: ntrim r (Nat.lor m (Nat.shiftLeft 1 d))) (ntrim r m) (Nat.testBit m d)) t = _
    rw [lk_cons]
    cases hm : Nat.testBit m d with
    | true =>
      have : d ≠ t := fun e => by rw [e, h] at hm; cases hm
      rw [if_neg this]
      exact ntrim_lk r m t h
    | false =>
      show lk ((d, v) :: ntrim r (Nat.lor m (Nat.shiftLeft 1 d))) t = _
      rw [lk_cons]
      by_cases e : d = t
      · rw [if_pos e, if_pos e]
      · rw [if_neg e, if_neg e]
        refine ntrim_lk r _ t ?_
        show (m ||| 1 <<< d).testBit t = false
        rw [Nat.testBit_or, h, Nat.one_shiftLeft, Nat.testBit_two_pow]
        simp [e]

theorem Sat.lk {O c env env' H a w} (h : Sat O c ⟨env, H⟩ a w) (he : ∀ t, Go.Proofs.Ytkgfmbbonadpoaa.lk env' t = Go.Proofs.Ytkgfmbbonadpoaa.lk env t) : Sat O c ⟨env', H⟩ a w :=
  ⟨fun t => by rw [he]; exact h.env t, h.hs, h.size, h.defers, h.ev, h.below⟩

/-- What a piece of code says. -/
structure Did (P : Program) (x : Code) (h : NH) (env : List (Nat × AV)) (H : AH) (e : Ex) (s' : NS) (H' : AH) : Prop where
  ha : HA s'.h H'
  stay : Stay s'.h.lo H H'
  lo : s'.h.lo ≤ h.lo
  wp : ∀ {O : Org} {c : Cx} {a : Act} {w : World} {R : Exit → Act → World → Prop}, slotsOK O.N x = true → Sat O c ⟨env, H⟩ a w → (∀ c' a' w', Sat O c' ⟨s'.env, H'⟩ a' w' → R e.out a' w') → x.wp P R a w

/-- The same of a loop's rounds. -/
structure DidL (P : Program) (x : Code) (h : NH) (env : List (Nat × AV)) (H : AH) (e : Ex) (s' : NS) (H' : AH) : Prop where
  ha : HA s'.h H'
  stay : Stay s'.h.lo H H'
  lo : s'.h.lo ≤ h.lo
  wp : ∀ {O : Org} {c : Cx} {a : Act} {w : World} {R : Exit → Act → World → Prop}, slotsOK O.N x = true → Sat O c ⟨env, H⟩ a w → (∀ c' a' w', Sat O c' ⟨s'.env, H'⟩ a' w' → R e.out a' w') → LoopWP P x R a w

theorem nloop_ok {x : Code} {f : NS → Option (Ex × NS)} (hf : ∀ {s : NS} {H : AH} {e : Ex} {s' : NS}, f s = some (e, s') → HA s.h H → ∃ H', Did P x s.h s.env H e s' H') :
    ∀ {n : Nat} {s : NS} {H : AH} {e : Ex} {s' : NS}, nloop n f s = some (e, s') → HA s.h H → ∃ H', DidL P x s.h s.env H e s' H'
  | 0, s, H, e, s', hh, ha => by simp [nloop] at hh
  | n + 1, s, H, e, s', hh, ha => by
    unfold nloop at hh
    rw [fL_eq] at hh
    have hlk : ∀ t, lk (ntrim s.env 0) t = lk s.env t := fun t => ntrim_lk s.env 0 t (Nat.zero_testBit t)
    split at hh
    · rename_i s1 h1
      obtain ⟨H1, d1⟩ := hf h1 ha
      obtain ⟨H2, d2⟩ := nloop_ok hf hh d1.ha
      refine ⟨H2, d2.ha, d1.stay.trans d2.stay d2.lo, Nat.le_trans d2.lo d1.lo, fun {O c a w R} hsl hs hR => LoopWP.round ?_⟩
      exact d1.wp (R := Exit.then (LoopWP P x R) R) hsl (hs.lk hlk) fun c' a' w' hs' => d2.wp hsl hs' hR
    · rename_i i s1 h1
      cases hh
      obtain ⟨H1, d1⟩ := hf h1 ha
      refine ⟨H1, d1.ha, d1.stay, d1.lo, fun {O c a w R} hsl hs hR => LoopWP.round ?_⟩
      exact d1.wp (R := Exit.then (LoopWP P x R) R) hsl (hs.lk hlk) fun c' a' w' hs' => hR c' a' w' hs'
    · rename_i s1 h1
      cases hh
      obtain ⟨H1, d1⟩ := hf h1 ha
      refine ⟨H1, d1.ha, d1.stay, d1.lo, fun {O c a w R} hsl hs hR => LoopWP.round ?_⟩
      exact d1.wp (R := Exit.then (LoopWP P x R) R) hsl (hs.lk hlk) fun c' a' w' hs' => hR c' a' w' hs'
    · cases hh

theorem ncode_ok (hT : TabOK P tab) (hm : P.follows .mixedOrders = true) (hC : CallOK P call) (hE : ∀ t y, eqs t = true → tab t = some y → y.eqOK) {fuel : Nat} : ∀ {x : Code} {s : NS} {H : AH} {e : Ex} {s' : NS},
    ncode tab eqs call fuel x s = some (e, s') → HA s.h H → ∃ H', Did P x s.h s.env H e s' H' := by
  intro x
  induction x with
  | skip =>
    intro s H e s' hh ha
    cases hh
    exact ⟨H, ha, Stay.refl _ _, Nat.le_refl _, fun {O c a w R} _ hs hR => wp_skip (hR c a w hs)⟩
  | seq x y ihx ihy =>
    intro s H e s' hh ha
    unfold ncode at hh
    split at hh
    · rename_i s1 h1
      obtain ⟨H1, d1⟩ := ihx h1 ha
      obtain ⟨H2, d2⟩ := ihy hh d1.ha
      refine ⟨H2, d2.ha, d1.stay.trans d2.stay d2.lo, Nat.le_trans d2.lo d1.lo, fun {O c a w R} hsl hs hR => ?_⟩
      simp only [slotsOK, Bool.and_eq_true] at hsl
      exact wp_seq (d1.wp hsl.1 hs fun c' a' w' hs' => d2.wp hsl.2 hs' hR)
    · rename_i i s1 h1
      cases hh
      obtain ⟨H1, d1⟩ := ihx h1 ha
      refine ⟨H1, d1.ha, d1.stay, d1.lo, fun {O c a w R} hsl hs hR => ?_⟩
      simp only [slotsOK, Bool.and_eq_true] at hsl
      exact wp_seq (d1.wp hsl.1 hs fun c' a' w' hs' => hR c' a' w' hs')
    · rename_i s1 h1
      cases hh
      obtain ⟨H1, d1⟩ := ihx h1 ha
      refine ⟨H1, d1.ha, d1.stay, d1.lo, fun {O c a w R} hsl hs hR => ?_⟩
      simp only [slotsOK, Bool.and_eq_true] at hsl
      exact wp_seq (d1.wp hsl.1 hs fun c' a' w' hs' => hR c' a' w' hs')
    · cases hh
  | cond o x y ihx ihy =>
    intro s H e s' hh ha
    unfold ncode at hh
    rw [nopd_eq] at hh
    split at hh
    · rename_i t ht
      split at hh
      · obtain ⟨H1, d1⟩ := ihx hh ha
        refine ⟨H1, d1.ha, d1.stay, d1.lo, fun {O c a w R} hsl hs hR => ?_⟩
        simp only [slotsOK, Bool.and_eq_true] at hsl
        have hra := opd_ok hs.env o
        rw [ht] at hra
        exact wp_cond hra.bool (d1.wp hsl.1 hs hR)
      · obtain ⟨H1, d1⟩ := ihy hh ha
        refine ⟨H1, d1.ha, d1.stay, d1.lo, fun {O c a w R} hsl hs hR => ?_⟩
        simp only [slotsOK, Bool.and_eq_true] at hsl
        have hra := opd_ok hs.env o
        rw [ht] at hra
        exact wp_cond hra.bool (d1.wp hsl.2 hs hR)
    · cases hh
  | block id x ih =>
    intro s H e s' hh ha
    unfold ncode at hh
    split at hh
    · rename_i s1 h1
      cases hh
      obtain ⟨H1, d1⟩ := ih h1 ha
      exact ⟨H1, d1.ha, d1.stay, d1.lo, fun {O c a w R} hsl hs hR => wp_block (d1.wp hsl hs fun c' a' w' hs' => hR c' a' w' hs')⟩
    · rename_i i s1 h1
      obtain ⟨H1, d1⟩ := ih h1 ha
      split at hh
      · rename_i hb
        cases hh
        refine ⟨H1, d1.ha, d1.stay, d1.lo, fun {O c a w R} hsl hs hR => wp_block (d1.wp hsl hs fun c' a' w' hs' => ?_)⟩
        simp only [Ex.out, Exit.inBlock]
        rw [if_pos (Nat.eq_of_beq_eq_true hb)]
        exact hR c' a' w' hs'
      · rename_i hb
        cases hh
        refine ⟨H1, d1.ha, d1.stay, d1.lo, fun {O c a w R} hsl hs hR => wp_block (d1.wp hsl hs fun c' a' w' hs' => ?_)⟩
        simp only [Ex.out, Exit.inBlock]
        rw [if_neg (fun e => by subst e; simp at hb)]
        exact hR c' a' w' hs'
    · rename_i s1 h1
      cases hh
      obtain ⟨H1, d1⟩ := ih h1 ha
      exact ⟨H1, d1.ha, d1.stay, d1.lo, fun {O c a w R} hsl hs hR => wp_block (d1.wp hsl hs fun c' a' w' hs' => hR c' a' w' hs')⟩
    · cases hh
  | loop x ih =>
    intro s H e s' hh ha
    unfold ncode at hh
    obtain ⟨H1, d1⟩ := nloop_ok (P := P) (x := x) (fun h1 ha1 => ih h1 ha1) hh ha
    exact ⟨H1, d1.ha, d1.stay, d1.lo, fun {O c a w R} hsl hs hR => LoopWP.wp (d1.wp hsl hs hR)⟩
  | exit id =>
    intro s H e s' hh ha
    cases hh
    exact ⟨H, ha, Stay.refl _ _, Nat.le_refl _, fun {O c a w R} _ hs hR => wp_exit (hR c a w hs)⟩
  | ret =>
    intro s H e s' hh ha
    cases hh
    exact ⟨H, ha, Stay.refl _ _, Nat.le_refl _, fun {O c a w R} _ hs hR => wp_ret (hR c a w hs)⟩
  | region id ops draw =>
    intro s H e s' hh ha
    unfold ncode at hh
    split at hh
    · split at hh
      · rename_i s1 h1
        cases hh
        obtain ⟨H1, w1⟩ := nops_ok hC hE h1 ha
        refine ⟨H1, w1.ha, w1.stay, w1.lo, fun {O c a w R} hsl hs hR => wp_region_list (xops_ok hT (w1.x (fun q => q = ⟨s'.env, H1⟩) rfl) hsl hs fun q c' a' w' hs' hq => ?_)⟩
        subst hq
        exact hR c' a' w' hs'
      · cases hh
    · split at hh
      · rename_i hdo
        split at hh
        · rename_i s1 h1
          cases hh
          obtain ⟨H1, w1⟩ := ndr_ok hC hE h1 ha
          refine ⟨H1, w1.ha, w1.stay, w1.lo, fun {O c a w R} hsl hs hR => regD_ok hT hm (regD_intro [] (nsig ops) hdo (w1.x (fun q => q = ⟨s'.env, H1⟩) rfl)) hsl hs fun q c' a' w' hs' hq => ?_⟩
          subst hq
          exact hR c' a' w' hs'
        · cases hh
      · cases hh
  | _ => intro s H e s' hh; cases hh

theorem nres_ok {env : List (Nat × AV)} {H : AH} : ∀ {l : List ResultVar} {vs : List AV}, nres tab env (gt H) l = some vs → ∀ K : List AV → Prop, K vs → xres tab ⟨env, H⟩ l K
  | [], vs, h, K, k => by cases h; exact k
  | .tmp t :: r, vs, h, K, k => by
    unfold nres at h
    split at h
    · rename_i l hl
      cases h
      rw [nlk_eq] at k
      exact nres_ok hl _ k
    · cases h
  | .cell a ty :: r, vs, h, K, k => by
    unfold nres at h
    rw [nlk_eq] at h
    obtain ⟨v, h1, h2⟩ := nload_ok h
    split at h1
    · rename_i l hl
      cases h1
      exact h2 (fun v => xres tab ⟨env, H⟩ r fun l => K (v :: l)) (nres_ok hl _ k)
    · cases h1

theorem nfn_ok (hT : TabOK P tab) (hm : P.follows .mixedOrders = true) (hC : CallOK P call) (hE : ∀ t y, eqs t = true → tab t = some y → y.eqOK) {fuel : Nat} {f : FuncId} {fn : Func} {x : Code} (hf : P.funcs[f]? = some fn) (hb : fn.body = some x)
    (hn : (fn.name == "runtime.NumGoroutine") = false) {args : List AV} {h : NH} {v : AV} {h' : NH} (hh : nfn tab eqs call fuel fn x args h = some (v, h')) {H : AH} (ha : HA h H) :
    ∃ H', HA h' H' ∧ Stay h'.lo H H' ∧ h'.lo ≤ h.lo ∧ CallS P f args H (fun r H'' => r = v ∧ H'' = H') := by
  unfold nfn at hh
  split at hh
  · cases hh
  rename_i hc
  simp only [Bool.and_eq_true] at hc
  have hle := Nat.le_of_ble_eq_true hc.1
  have key : ∀ {e : Ex} {s : NS} {l : List AV}, ncode tab eqs call fuel x ⟨args0 0 args, h⟩ = some (e, s) → (∀ i, e ≠ .exit i) → nres tab s.env s.h.hp.get fn.results.toList = some l →
      ∃ H', HA s.h H' ∧ Stay s.h.lo H H' ∧ s.h.lo ≤ h.lo ∧ CallS P f args H (fun r H'' => r = tupOf l ∧ H'' = H') := by
    intro e s l h1 hne h2
    obtain ⟨H1, d1⟩ := ncode_ok hT hm hC hE h1 ha
    refine ⟨H1, d1.ha, d1.stay, d1.lo, fun B c w vs hs hl hr => .inl ⟨⟨fn, hf, by rw [hb]; rfl, hn⟩, calls_of_wp hf hb ?_⟩⟩
    let O : Org := ⟨fn.ntmps, B, w, c, H⟩
    have hs0 : Sat O c ⟨args0 0 args, H⟩ { tmps := vs ++ Array.replicate (fn.ntmps - vs.size) undef, defers := [] } w := by
      refine ⟨fun t => ?_, hs, by simp [O]; omega, rfl, Ev.refl _ _ _, Below.refl _ _⟩
      rw [args0_lk, if_pos (Nat.zero_le _), Nat.sub_zero]
      simp only [Array.getD_eq_getD_getElem?, List.getD_eq_getElem?_getD]
      by_cases ht : t < args.length
      · rw [Array.getElem?_append_left (by omega)]
        obtain ⟨v, hv⟩ := arr_get (a := vs) (i := t) (by omega)
        have ha : args[t]? = some args[t] := List.getElem?_eq_getElem ht
        rw [hv, ha]
        exact hr t _ v ha hv
      · rw [List.getElem?_eq_none (by omega)]
        exact .junk _
    refine d1.wp (O := O) hc.2 hs0 fun c' a' w' hs' => ?_
    rw [d1.ha.get] at h2
    have hx := nres_ok h2 (fun q => q = l) rfl
    obtain ⟨l2, val, r1, r2, k⟩ := results_ok hT hs' hx
    subst k
    cases e with
    | exit id => exact (hne id rfl).elim
    | normal => exact ⟨hs'.defers, val, r1, val, c', _, H1, rfl, r2, hs'.hs, hs'.ev, hs'.below, rfl, rfl⟩
    | ret => exact ⟨hs'.defers, val, r1, val, c', _, H1, rfl, r2, hs'.hs, hs'.ev, hs'.below, rfl, rfl⟩
  split at hh
  · cases hh
  · rename_i e s hne h1
    split at hh
    · rename_i l h2
      cases hh
      exact key h1 hne h2
    · cases hh
  · cases hh

theorem ncall_ok (hT : TabOK P tab) (hm : P.follows .mixedOrders = true) (hE : ∀ t y, eqs t = true → tab t = some y → y.eqOK) {ext : FuncId → List AV → Option AV}
    (hX : ∀ {f : FuncId} {args : List AV} {v : AV}, ext f args = some v → ∀ H, CallS P f args H (fun r H' => r = v ∧ H' = H)) : ∀ k, CallOK P (ncall P tab eqs ext k)
  | 0 => by intro hh; simp [ncall] at hh
  | k + 1 => by
    intro hh H ha
    unfold ncall at hh
    split at hh
    · rename_i v1 h1
      cases hh
      exact ⟨H, ha, Stay.refl _ _, Nat.le_refl _, hX h1 H⟩
    · split at hh
      · cases hh
      · rename_i fn hf
        split at hh
        · cases hh
        · rename_i x hb
          split at hh
          · cases hh
          · rename_i hn
            exact nfn_ok hT hm (ncall_ok hT hm hE hX k) hE hf hb hn hh ha

/-- A call without unknowns whose outcome is data: its contract. -/
theorem Runs.of_ncall (hT : TabOK P tab) (hm : P.follows .mixedOrders = true) (hE : ∀ t y, eqs t = true → tab t = some y → y.eqOK) {ext : FuncId → List AV → Option AV}
    (hX : ∀ {f : FuncId} {args : List AV} {v : AV}, ext f args = some v → ∀ H, CallS P f args H (fun r H' => r = v ∧ H' = H)) {k : Nat} {f : FuncId} {b : Bool}
    (h : (match ncall P tab eqs ext k f [] ⟨.leaf, 0, 0⟩ with | some (.t (.bool c), _) => c == b | _ => false) = true) : Runs P f [] (.t (.bool b)) := by
  split at h
  · rename_i c h' hh
    obtain ⟨H', _, _, _, hc⟩ := ncall_ok hT hm hE hX k hh (H := []) ⟨rfl, funext fun b => by simp [Tr.get_leaf]⟩
    obtain rfl := eq_of_beq h
    refine Runs.of_call ?_ rfl
    refine CallS.mono hc fun r H'' ⟨e1, e2⟩ => ?_
    subst e1
    exact ⟨rfl, rfl⟩
  · cases h

end
end Go.Proofs.Ytkgfmbbonadpoaa
