/-
  Operations of the fast engine: operands are read off a stack, slots or constants.
-/
import Derived.Test.YthpkehhghcpolaaDoorQEval
namespace Go.Proofs.YthpkehhghcpolaaDoor
open Go.RowKit
set_option linter.unusedVariables false
set_option linter.unusedSimpArgs false

section
variable {R : Type}

/-! ### Reading -/

noncomputable def qst (st : List AV) (i : Nat) (K : AV → Option R) : Option R :=
  @List.rec AV (fun _ => Nat → (AV → Option R) → Option R) (fun _ K => K .junk) (fun x _ go i K => @Nat.rec (fun _ => Option R) (K x) (fun j _ => go j K) i) st i K

noncomputable def qlk (env : List (Nat × AV)) (t : Nat) (K : AV → Option R) : Option R :=
  @List.rec (Nat × AV) (fun _ => Nat → (AV → Option R) → Option R) (fun _ K => K .junk)
    (fun p _ go t K => @Prod.rec Nat AV (fun _ => Option R) (fun a v => @Bool.rec (fun _ => Option R) (go t K) (K v) (Nat.beq a t)) p) env t K

noncomputable def qrd : Operand → List AV → List (Nat × AV) → (AV → Option R) → Option R :=
  @Operand.rec (fun _ => List AV → List (Nat × AV) → (AV → Option R) → Option R)
    (fun t _ env K => qlk env t K) (fun v _ _ K => K (ofVal v)) (fun g st _ K => qst st g K) (fun f _ _ K => K (.t (.fn (.func f) [] [])))

noncomputable def qev (st : List AV) (env : List (Nat × AV)) : Operand → AV
  | .tmp t => nlk env t
  | .const v => ofVal v
  | .global g => st.getD g .junk
  | .func f => .t (.fn (.func f) [] [])

theorem qst_eq : ∀ (st : List AV) (i : Nat) (K : AV → Option R), qst st i K = K (st.getD i .junk)
  | [], i, K => rfl
  | x :: r, 0, K => rfl
  | x :: r, i + 1, K => qst_eq r i K

theorem qlk_eq : ∀ (env : List (Nat × AV)) (t : Nat) (K : AV → Option R), qlk env t K = K (lk env t)
  | [], t, K => rfl
  | (a, v) :: r, t, K => by
    show @Bool.rec (fun _ => Option R) (qlk r t K) (K v) (Nat.beq a t) = _
    rw [qlk_eq r t K]
    simp only [lk]
    cases Nat.beq a t <;> rfl

theorem qrd_eq (x : Operand) (st : List AV) (env : List (Nat × AV)) (K : AV → Option R) : qrd x st env K = K (qev st env x) := by
  cases x with
  | tmp t => exact (qlk_eq env t K).trans (by rw [← nlk_eq]; rfl)
  | const v => rfl
  | global g => exact qst_eq st g K
  | func f => rfl

noncomputable def qrds (l : List Operand) (st : List AV) (env : List (Nat × AV)) (K : List AV → Option R) : Option R :=
  @List.rec Operand (fun _ => List AV → List (Nat × AV) → (List AV → Option R) → Option R) (fun _ _ K => K []) (fun x _ go st env K => qrd x st env fun v => go st env fun r => K (v :: r)) l st env K

theorem qrds_eq (st : List AV) (env : List (Nat × AV)) : ∀ (l : List Operand) (K : List AV → Option R), qrds l st env K = K (l.map (qev st env))
  | [], K => rfl
  | x :: r, K => by
    show qrd x st env (fun v => qrds r st env fun r => K (v :: r)) = _
    rw [qrd_eq, qrds_eq st env r]; rfl

/-! ### Memory -/

noncomputable def qhp (h : NH) (c : HC) (K : NH → Option R) : Option R :=
  @NH.rec (fun _ => HC → (NH → Option R) → Option R) (fun hp len lo c K =>
    @HC.rec (fun _ => Tr → Nat → Nat → (NH → Option R) → Option R) (fun hp len lo K => K ⟨hp, len, lo⟩)
      (fun b hp len lo K => fB b fun b => nset 24 hp len b fun hp => fN (Nat.succ len) fun len => K ⟨hp, len, lo⟩)
      (fun b blk hp len lo K => fB blk fun blk => @Bool.rec (fun _ => Option R) none (nset 24 hp b blk fun hp => @Bool.rec (fun _ => Option R) (K ⟨hp, len, lo⟩) (K ⟨hp, len, b⟩) (Nat.ble b lo)) (Nat.ble (Nat.succ b) len))
      c hp len lo K) h c K

theorem qhp_ok {h : NH} {c : HC} {K : NH → Option R} {r : R} (hh : qhp h c K = some r) {H : AH} (ha : HA h H) :
    ∃ h', K h' = some r ∧ HA h' (c.on H) ∧ Stay h'.lo H (c.on H) ∧ h'.lo ≤ h.lo := by
  obtain ⟨hp, len, lo⟩ := h
  cases c with
  | no => exact ⟨_, hh, ha, Stay.refl _ _, Nat.le_refl _⟩
  | push b =>
    have hh : fB b (fun b => nset 24 hp len b fun hp => fN (Nat.succ len) fun len => K ⟨hp, len, lo⟩) = some r := hh
    simp only [fB_eq] at hh
    obtain ⟨t', h1, h2, h3⟩ := nset_ok hh
    rw [fN_eq] at h1
    refine ⟨_, h1, ⟨by simp [HC.on, ha.len], funext fun i => ?_⟩, ⟨by simp [HC.on], fun i _ hi => by simp only [HC.on]; rw [List.getElem?_append_left hi]⟩, Nat.le_refl _⟩
    have hl : H.length = len := ha.len
    simp only [HC.on, gt]
    by_cases e : i = len
    · subst e; rw [h2, ← hl]; simp
    · rw [h3 i e, show hp.get i = H[i]? from congrFun ha.get i]
      by_cases hlt : i < H.length
      · rw [List.getElem?_append_left hlt]
      · rw [List.getElem?_eq_none (by omega), List.getElem?_eq_none (by simp; omega)]
  | set b blk =>
    have hh : fB blk (fun blk => @Bool.rec (fun _ => Option R) none (nset 24 hp b blk fun hp => @Bool.rec (fun _ => Option R) (K ⟨hp, len, lo⟩) (K ⟨hp, len, b⟩) (Nat.ble b lo)) (Nat.ble (Nat.succ b) len)) = some r := hh
    simp only [fB_eq] at hh
    have hl : H.length = len := ha.len
    cases hc : Nat.ble (Nat.succ b) len with
    | false => rw [hc] at hh; cases hh
    | true =>
      rw [hc] at hh
      have hlt : b < len := Nat.le_of_ble_eq_true hc
      obtain ⟨t', h1, h2, h3⟩ := nset_ok (show nset 24 hp b blk _ = some r from hh)
      have hget : t'.get = gt (H.set b blk) := funext fun i => by
        simp only [gt]
        by_cases e : i = b
        · subst e; rw [h2, List.getElem?_set_self (by omega)]
        · rw [h3 i e, List.getElem?_set_ne (fun h => e h.symm)]; exact congrFun ha.get i
      cases hb : Nat.ble b lo with
      | false =>
        rw [hb] at h1
        have hgt : lo < b := Nat.lt_of_not_le fun hle => by rw [Nat.ble_eq_true_of_le hle] at hb; cases hb
        exact ⟨_, h1, ⟨by simp [HC.on, hl], hget⟩, ⟨by simp [HC.on], fun i h4 h5 => by simp only [HC.on]; rw [List.getElem?_set_ne (by simp only at h4; omega)]⟩, Nat.le_refl _⟩
      | true =>
        rw [hb] at h1
        exact ⟨_, h1, ⟨by simp [HC.on, hl], hget⟩, ⟨by simp [HC.on], fun i h4 h5 => by simp only [HC.on]; rw [List.getElem?_set_ne (by simp only at h4; omega)]⟩, Nat.le_of_ble_eq_true hb⟩

/-! ### Whatever operation -/

noncomputable def fTs {α : Type} (x : T) (K : AV → α) : α :=
  @T.rec (fun _ => (AV → α) → α) (fun _ => Unit)
    (fun b K => @Bool.rec (fun _ => α) (K (.t (.bool false))) (K (.t (.bool true))) b) (fun k n K => fTint k n fun x => K (.t x)) (fun s K => fL s fun s => K (.t (.str s))) (fun K => K (.t .nilp)) (fun K => K (.t .nils)) (fun K => K (.t .nilf)) (fun K => K (.t .nili))
    (fun cs _ K => fL cs fun cs => K (.t (.iptr cs))) (fun s l _ K => fL l fun l => K (.t (.vec s l))) (fun cs _ K => fL cs fun cs => K (.t (.agg cs)))
    (fun f a b _ _ K => K (.t (.fn f a b))) (fun t v _ K => K (.t (.ifc t v))) () (fun _ _ _ _ => ()) x K
theorem fTs_eq {α : Type} (x : T) (K : AV → α) : fTs x K = K (.t x) := by
  cases x with
  | bool b => cases b <;> rfl
  | int k n => exact (fK_eq k _).trans (fI_eq n _)
  | str s => exact fL_eq s _
  | iptr cs => exact fL_eq cs _
  | vec s l => exact fL_eq l _
  | agg cs => exact fL_eq cs _
  | _ => rfl

/-- Strings, too, reckoned at once. -/
noncomputable def fW {α : Type} (x : AV) (K : AV → α) : α :=
  @AV.rec (fun _ => (AV → α) → α) (fun _ => Unit)
    fTs (fun b g i o K => fN b fun b => fN g fun g => fN i fun i => fN o fun o => K (.ptr b g i o)) (fun b g i n K => fN b fun b => fN g fun g => fN i fun i => fN n fun n => K (.sl b g i n))
    (fun cs _ K => fAs cs fun cs => K (.agg cs)) (fun cs _ K => fAs cs fun cs => K (.tup cs)) (fun f a b _ _ K => fAs a fun a => fAs b fun b => K (.fn f a b)) (fun t v _ K => fA v fun v => K (.ifc t v))
    (fun e s z l K => K (.own e s z l)) (fun K => K .emp) (fun K => K .junk) () (fun _ _ _ _ => ()) x K
theorem fW_eq {α : Type} (x : AV) (K : AV → α) : fW x K = K x := by
  cases x with
  | t x => exact fTs_eq x _
  | ptr b g i o => exact fV_eq (.ptr b g i o) K
  | sl b g i n => exact fV_eq (.sl b g i n) K
  | agg cs => exact fAs_eq cs _
  | tup cs => exact fAs_eq cs _
  | fn f a b => exact fV_eq (.fn f a b) K
  | ifc t v => exact fA_eq v _
  | _ => rfl

noncomputable def gdo (call : CallN) (g : FuncId) (args : List AV) (h : NH) (K : AV → NH → Option R) : Option R :=
  match call g args h with
  | some (v, h') => K v h'
  | none => none

noncomputable def gfin (h : NH) (K : AV → NH → Option R) (v : AV) (c : HC) : Option R := fW v fun v => qhp h c fun h => K v h

noncomputable def gcl (tab : Tab) (call : CallN) (c : Call) (ty : TypeId) (ev : Operand → AV) (h : NH) (K : AV → NH → Option R) : Option R :=
  match c.callee with
  | .builtin b =>
    (match b, c.argTypes.toList, c.args.toList with
    | .len, [t], [x] => nlen tab t h.hp.get (ev x) fun v => gfin h K v .no
    | .append, [t, u], [x, y] => NOpt (tab u) fun z => (match isIntD z.d with | true => nappendZ tab t (ev x) (ev y) h.hp.get h.len (gfin h K) | false => nappend tab t h.hp.get h.len (ev x) (ev y) (gfin h K))
    | .cap, [t], [x] => ncap tab t h.hp.get (ev x) fun v => gfin h K v .no
    | .copy, [t, _], [x, y] => ncopy tab t (ev x) (ev y) h.hp.get (gfin h K)
    | .min, _, [x, y] => nminmax false (ev x) (ev y) fun v => gfin h K v .no
    | .max, _, [x, y] => nminmax true (ev x) (ev y) fun v => gfin h K v .no
    | _, _, _ => none)
  | .value f =>
    (match ev f with
    | .t (.fn (.func g) first captured) => fAs (first.map .t ++ (c.args.toList.map ev ++ captured.map .t)) fun args => gdo call g args h K
    | .fn (.func g) first captured => fAs (first ++ (c.args.toList.map ev ++ captured)) fun args => gdo call g args h K
    | _ => none)
  | .invoke _ _ => none

noncomputable def gop (tab : Tab) (eqs : TypeId → Bool) (call : CallN) (op : Op) (ty : TypeId) (ev : Operand → AV) (h : NH) (K : AV → NH → Option R) : Option R :=
  match op with
  | .move x => gfin h K (ev x) .no
  | .assign x => nassign tab ty (ev x) h.hp.get h.len (gfin h K)
  | .pick c a b => npick (ev c) (ev a) (ev b) fun v => gfin h K v .no
  | .alloc e => NOpt (tab e) fun y => NOpt y.zero fun zs => NCk (zs.all T.one && Nat.beq zs.length y.size) (gfin h K (.ptr h.len 0 0 0) (.push (.box (zs.map .t))))
  | .box e x => NCk ((ev x).cells.all AV.one) (gfin h K (.ptr h.len 0 0 0) (.push (.box (ev x).cells)))
  | .build t parts => nbuild tab t (parts.toList.map fun p => (p.1, ev p.2)) fun v => gfin h K v .no
  | .buildSlice t n parts => nbuildSlice tab t n (parts.toList.map fun p => (p.1, ev p.2)) h.hp.get h.len (gfin h K)
  | .load t a => nload tab t h.hp.get (ev a) fun v => gfin h K v .no
  | .store t a x => nstore tab t h.hp.get (ev a) (ev x) fun c => gfin h K (.tup []) c
  | .nilCheck x => nnilCheck h.hp.get (ev x) fun v => gfin h K v .no
  | .binOp op t x y _ => nbin tab eqs op t h.hp.get (ev x) (ev y) (isConst y) fun v => gfin h K (.t v) .no
  | .unOp op _ x => nun op (ev x) fun v => gfin h K (.t v) .no
  | .convert s d x => nconvert tab s d (ev x) h.hp.get fun v => gfin h K v .no
  | .makeInterface t x => NOpt (tab t) fun y => NCk (match y.d with | .interface _ => false | _ => true)
      (match ev x with | .t v => gfin h K (.t (.ifc t v)) .no | v => gfin h K (.ifc t v) .no)
  | .makeFunc f first captured => gfin h K (.fn f (first.toList.map ev) (captured.toList.map ev)) .no
  | .makeSlice t l c => nmakeSlice tab t (ev l) (ev c) h.hp.get h.len (gfin h K)
  | .slice t x lo hi mx => nslice tab t h.hp.get (ev x) (lo.map ev) (hi.map ev) (mx.map ev) fun v => gfin h K v .no
  | .fieldAddr t x k => nfieldAddr tab t h.hp.get (ev x) k fun v => gfin h K v .no
  | .field t x k => nfield tab t (ev x) k fun v => gfin h K v .no
  | .indexAddr t x i => nindexAddr tab t h.hp.get (ev x) (ev i) fun v => gfin h K v .no
  | .index t x i => nindex tab t (ev x) (ev i) fun v => gfin h K v .no
  | .extract x i => nextract (ev x) i fun v => gfin h K v .no
  | .call c => gcl tab call c ty ev h K
  | .range t x => nrange tab t (ev x) h.hp.get h.len (gfin h K)
  | .next x st => nnext (ev x) st h.hp.get (gfin h K)
  | _ => none

noncomputable def gopF (op : Op) (tab : Tab) (eqs : TypeId → Bool) (call : CallN) (ty : TypeId) (ev : Operand → AV) (h : NH) (K : AV → NH → Option R) : Option R :=
  @Op.rec (fun _ => Tab → (TypeId → Bool) → CallN → TypeId → (Operand → AV) → NH → (AV → NH → Option R) → Option R)
    (fun x tab eqs call ty ev h K => gfin h K (ev x) .no)
    (fun x tab eqs call ty ev h K => nassign tab ty (ev x) h.hp.get h.len (gfin h K))
    (fun c a b tab eqs call ty ev h K => npick (ev c) (ev a) (ev b) fun v => gfin h K v .no)
    (fun e tab eqs call ty ev h K => NOpt (tab e) fun y => NOpt y.zero fun zs => NCk (zs.all T.one && Nat.beq zs.length y.size) (gfin h K (.ptr h.len 0 0 0) (.push (.box (zs.map .t)))))
    (fun e x tab eqs call ty ev h K => NCk ((ev x).cells.all AV.one) (gfin h K (.ptr h.len 0 0 0) (.push (.box (ev x).cells))))
    (fun t parts tab eqs call ty ev h K => nbuild tab t (parts.toList.map fun p => (p.1, ev p.2)) fun v => gfin h K v .no)
    (fun t n parts tab eqs call ty ev h K => nbuildSlice tab t n (parts.toList.map fun p => (p.1, ev p.2)) h.hp.get h.len (gfin h K))
    (fun _ _ _ _ _ _ _ _ _ _ _ => none)
    (fun t a tab eqs call ty ev h K => nload tab t h.hp.get (ev a) fun v => gfin h K v .no)
    (fun t a x tab eqs call ty ev h K => nstore tab t h.hp.get (ev a) (ev x) fun c => gfin h K (.tup []) c)
    (fun _ _ _ _ _ _ _ _ => none)
    (fun _ _ _ _ _ _ _ _ => none)
    (fun x tab eqs call ty ev h K => nnilCheck h.hp.get (ev x) fun v => gfin h K v .no)
    (fun op t x y _ tab eqs call ty ev h K => nbin tab eqs op t h.hp.get (ev x) (ev y) (isConst y) fun v => gfin h K (.t v) .no)
    (fun op _ x tab eqs call ty ev h K => nun op (ev x) fun v => gfin h K (.t v) .no)
    (fun s d x tab eqs call ty ev h K => nconvert tab s d (ev x) h.hp.get fun v => gfin h K v .no)
    (fun _ _ _ _ _ _ _ _ _ => none)
    (fun t x tab eqs call ty ev h K => NOpt (tab t) fun y => NCk (match y.d with | .interface _ => false | _ => true)       (match ev x with | .t v => gfin h K (.t (.ifc t v)) .no | v => gfin h K (.ifc t v) .no))
    (fun f first captured tab eqs call ty ev h K => gfin h K (.fn f (first.toList.map ev) (captured.toList.map ev)) .no)
    (fun _ _ _ _ _ _ _ _ _ => none)
    (fun _ _ _ _ _ _ _ _ _ => none)
    (fun t l c tab eqs call ty ev h K => nmakeSlice tab t (ev l) (ev c) h.hp.get h.len (gfin h K))
    (fun t x lo hi mx tab eqs call ty ev h K => nslice tab t h.hp.get (ev x) (lo.map ev) (hi.map ev) (mx.map ev) fun v => gfin h K v .no)
    (fun t x k tab eqs call ty ev h K => nfieldAddr tab t h.hp.get (ev x) k fun v => gfin h K v .no)
    (fun t x k tab eqs call ty ev h K => nfield tab t (ev x) k fun v => gfin h K v .no)
    (fun t x i tab eqs call ty ev h K => nindexAddr tab t h.hp.get (ev x) (ev i) fun v => gfin h K v .no)
    (fun t x i tab eqs call ty ev h K => nindex tab t (ev x) (ev i) fun v => gfin h K v .no)
    (fun _ _ _ _ _ _ _ _ _ _ _ => none)
    (fun _ _ _ _ _ _ _ _ _ _ _ => none)
    (fun _ _ _ _ _ _ _ _ _ _ => none)
    (fun _ _ _ _ _ _ _ _ _ _ _ => none)
    (fun t x tab eqs call ty ev h K => nrange tab t (ev x) h.hp.get h.len (gfin h K))
    (fun x st tab eqs call ty ev h K => nnext (ev x) st h.hp.get (gfin h K))
    (fun _ _ _ _ _ _ _ _ => none)
    (fun _ _ _ _ _ _ _ _ _ _ _ => none)
    (fun x i tab eqs call ty ev h K => nextract (ev x) i fun v => gfin h K v .no)
    (fun c tab eqs call ty ev h K => gcl tab call c ty ev h K)
    (fun _ _ _ _ _ _ _ _ => none)
    (fun _ _ _ _ _ _ _ _ => none)
    (fun _ _ _ _ _ _ _ _ => none)
    (fun _ _ _ _ _ _ _ _ _ => none)
    (fun _ _ _ _ _ _ _ _ _ _ => none)
    (fun _ _ _ _ _ _ _ _ _ => none)
    op tab eqs call ty ev h K

theorem gopF_eq (op : Op) (tab : Tab) (eqs : TypeId → Bool) (call : CallN) (ty : TypeId) (ev : Operand → AV) (h : NH) (K : AV → NH → Option R) : gopF op tab eqs call ty ev h K = gop tab eqs call op ty ev h K := by
  cases op <;> rfl

end

/-- What an operation came to. -/
def GOut {R : Type} (h : NH) (H : AH) (K : AV → NH → Option R) (r : R) (X : (AV → AH → Prop) → Prop) : Prop :=
  ∃ v h' H', K v h' = some r ∧ HA h' H' ∧ Stay h'.lo H H' ∧ h'.lo ≤ h.lo ∧ ∀ K' : AV → AH → Prop, K' v H' → X K'

section
variable {R : Type} {P : Program} {tab : Tab} {eqs : TypeId → Bool} {call : CallN}

theorem gstepC {h : NH} {H : AH} (ha : HA h H) {K : AV → NH → Option R} {r : R} {v : AV} {c : HC} {X : (AV → AH → Prop) → Prop} (hh : gfin h K v c = some r) (hx : ∀ K', K' v (c.on H) → X K') : GOut h H K r X := by
  unfold gfin at hh
  rw [fW_eq] at hh
  obtain ⟨h', h1, h2, h3, h4⟩ := qhp_ok hh ha
  exact ⟨v, h', _, h1, h2, h3, h4, hx⟩

theorem gstepD (hC : CallOK P call) {g : FuncId} {args : List AV} {h : NH} {H : AH} (ha : HA h H) {K : AV → NH → Option R} {r : R} (hh : gdo call g args h K = some r) : GOut h H K r (CallS P g args H) := by
  unfold gdo at hh
  split at hh
  · rename_i v h' hc
    obtain ⟨H', k1, k2, k3, k4⟩ := hC hc ha
    exact ⟨v, h', H', hh, k1, k2, k3, fun K' k => k4.mono fun r H'' ⟨e1, e2⟩ => by rw [e1, e2]; exact k⟩
  · cases hh

theorem gop_ok (hC : CallOK P call) (hE : ∀ t y, eqs t = true → tab t = some y → y.eqOK) {o : Oper} {env : List (Nat × AV)} {h : NH} {H : AH} (ha : HA h H) {K : AV → NH → Option R} {r : R} (hh : gop tab eqs call o.op o.type (opd env) h K = some r) :
    GOut h H K r (xop tab (CallS P) o env H) := by
  unfold gop at hh
  rw [ha.get, ← ha.len] at hh
  split at hh
  · rename_i x ho
    exact gstepC ha hh fun K k => by unfold xop; rw [ho]; exact k
  · rename_i x ho
    obtain ⟨v, c, h1, h2⟩ := nassign_ok hh
    exact gstepC ha h1 fun K k => by unfold xop; rw [ho]; exact h2 K k
  · rename_i x y z ho
    obtain ⟨v, h1, h2⟩ := npick_ok hh
    exact gstepC ha h1 fun K k => by unfold xop; rw [ho]; exact h2 (fun v => K v H) k
  · rename_i e ho
    simp only [nopt_iff, nck_iff] at hh
    obtain ⟨y, hy, zs, hz, hc, hh⟩ := hh
    exact gstepC ha hh fun K k => by unfold xop; rw [ho]; simp only [opt_iff, ck_iff]; exact ⟨y, hy, zs, hz, hc, k⟩
  · rename_i e x ho
    simp only [nck_iff] at hh
    exact gstepC ha hh.2 fun K k => by unfold xop; rw [ho]; simp only [ck_iff]; exact ⟨hh.1, k⟩
  · rename_i t parts ho
    obtain ⟨v, h1, h2⟩ := nbuild_ok hh
    exact gstepC ha h1 fun K k => by unfold xop; rw [ho]; exact h2 (fun v => K v H) k
  · rename_i t n parts ho
    obtain ⟨v, c, h1, h2⟩ := nbuildSlice_ok hh
    exact gstepC ha h1 fun K k => by unfold xop; rw [ho]; exact h2 K k
  · rename_i t x ho
    obtain ⟨v, h1, h2⟩ := nload_ok hh
    exact gstepC ha h1 fun K k => by unfold xop; rw [ho]; exact h2 (fun v => K v H) k
  · rename_i t x y ho
    obtain ⟨c, h1, h2⟩ := nstore_ok hh
    exact gstepC ha h1 fun K k => by unfold xop; rw [ho]; exact h2 (fun H => K (.tup []) H) k
  · rename_i x ho
    obtain ⟨v, h1, h2⟩ := nnilCheck_ok hh
    exact gstepC ha h1 fun K k => by unfold xop; rw [ho]; exact h2 (fun v => K v H) k
  · rename_i op t x y t2 ho
    obtain ⟨v, h1, h2⟩ := nbin_ok hE hh
    exact gstepC ha h1 fun K k => by unfold xop; rw [ho]; exact h2 (fun v => K (.t v) H) k
  · rename_i op t x ho
    obtain ⟨v, h1, h2⟩ := nun_ok hh
    exact gstepC ha h1 fun K k => by unfold xop; rw [ho]; exact h2 (fun v => K (.t v) H) k
  · rename_i t u x ho
    obtain ⟨v, h1, h2⟩ := nconvert_ok hh
    exact gstepC ha h1 fun K k => by unfold xop; rw [ho]; exact h2 (fun v => K v H) k
  · rename_i t x ho
    simp only [nopt_iff, nck_iff] at hh
    obtain ⟨y, hy, hc, hh⟩ := hh
    split at hh
    · rename_i v hv
      exact gstepC ha hh fun K k => by unfold xop; rw [ho]; simp only [opt_iff, ck_iff]; refine ⟨y, hy, hc, ?_⟩; rw [hv]; exact k
    · rename_i n1
      refine gstepC ha hh fun K k => ?_
      unfold xop; rw [ho]; simp only [opt_iff, ck_iff]; refine ⟨y, hy, hc, ?_⟩
      exact k
  · rename_i f first captured ho
    exact gstepC ha hh fun K k => by unfold xop; rw [ho]; exact k
  · rename_i t l cp ho
    obtain ⟨v, c, h1, h2⟩ := nmakeSlice_ok hh
    exact gstepC ha h1 fun K k => by unfold xop; rw [ho]; exact h2 K k
  · rename_i t x lo hi mx ho
    obtain ⟨v, h1, h2⟩ := nslice_ok hh
    exact gstepC ha h1 fun K k => by unfold xop; rw [ho]; exact h2 (fun v => K v H) k
  · rename_i t x k0 ho
    obtain ⟨v, h1, h2⟩ := nfieldAddr_ok hh
    exact gstepC ha h1 fun K k => by unfold xop; rw [ho]; exact h2 (fun v => K v H) k
  · rename_i t x k0 ho
    obtain ⟨v, h1, h2⟩ := nfield_ok hh
    exact gstepC ha h1 fun K k => by unfold xop; rw [ho]; exact h2 (fun v => K v H) k
  · rename_i t x i ho
    obtain ⟨v, h1, h2⟩ := nindexAddr_ok hh
    exact gstepC ha h1 fun K k => by unfold xop; rw [ho]; exact h2 (fun v => K v H) k
  · rename_i t x i ho
    obtain ⟨v, h1, h2⟩ := nindex_ok hh
    exact gstepC ha h1 fun K k => by unfold xop; rw [ho]; exact h2 (fun v => K v H) k
  · rename_i x i ho
    obtain ⟨v, h1, h2⟩ := nextract_ok hh
    exact gstepC ha h1 fun K k => by unfold xop; rw [ho]; exact h2 (fun v => K v H) k
  · rename_i cl ho
    unfold gcl at hh
    rw [ha.get, ← ha.len] at hh
    have hx : ∀ K, xcall tab (CallS P) cl o.type env H K → xop tab (CallS P) o env H K := fun K k => by unfold xop; rw [ho]; exact k
    split at hh
    · rename_i b hcb
      split at hh
      · rename_i t x h1 h2
        obtain ⟨v, k1, k2⟩ := nlen_ok hh
        exact gstepC ha k1 fun K k => hx K (by unfold xcall; rw [hcb]; simp only; rw [h1, h2]; exact k2 (fun v => K v H) k)
      · rename_i t u x y h1 h2
        rw [nopt_iff] at hh
        obtain ⟨z, hz, hh⟩ := hh
        split at hh
        · rename_i hc
          obtain ⟨v, c, k1, k2⟩ := nappendZ_ok hh
          exact gstepC ha k1 fun K k => hx K (by unfold xcall; rw [hcb]; simp only; rw [h1, h2]; refine opt_intro hz ?_; rw [hc]; exact k2 K k)
        · rename_i hc
          obtain ⟨v, c, k1, k2⟩ := nappend_ok hh
          exact gstepC ha k1 fun K k => hx K (by unfold xcall; rw [hcb]; simp only; rw [h1, h2]; refine opt_intro hz ?_; rw [hc]; exact k2 K k)
      · rename_i t x h1 h2
        obtain ⟨v, k1, k2⟩ := ncap_ok hh
        exact gstepC ha k1 fun K k => hx K (by unfold xcall; rw [hcb]; simp only; rw [h1, h2]; exact k2 (fun v => K v H) k)
      · rename_i t u x y h1 h2
        obtain ⟨v, c, k1, k2⟩ := ncopy_ok hh
        exact gstepC ha k1 fun K k => hx K (by unfold xcall; rw [hcb]; simp only; rw [h1, h2]; exact k2 K k)
      · rename_i x y h2
        obtain ⟨v, k1, k2⟩ := nminmax_ok hh
        exact gstepC ha k1 fun K k => hx K (by unfold xcall; rw [hcb]; simp only; rw [h2]; exact k2 (fun v => K v H) k)
      · rename_i x y h2
        obtain ⟨v, k1, k2⟩ := nminmax_ok hh
        exact gstepC ha k1 fun K k => hx K (by unfold xcall; rw [hcb]; simp only; rw [h2]; exact k2 (fun v => K v H) k)
      · cases hh
    · rename_i f hcf
      split at hh
      · rename_i g first captured hf
        rw [fAs_eq] at hh
        obtain ⟨v, h', H', k1, k2, k3, k4, k5⟩ := gstepD hC ha hh
        exact ⟨v, h', H', k1, k2, k3, k4, fun K k => hx K (by unfold xcall; rw [hcf]; simp only; rw [hf]; exact k5 K k)⟩
      · rename_i g first captured hf
        rw [fAs_eq] at hh
        obtain ⟨v, h', H', k1, k2, k3, k4, k5⟩ := gstepD hC ha hh
        exact ⟨v, h', H', k1, k2, k3, k4, fun K k => hx K (by unfold xcall; rw [hcf]; simp only; rw [hf]; exact k5 K k)⟩
      · cases hh
    · cases hh
  · rename_i t x ho
    obtain ⟨v, c, h1, h2⟩ := nrange_ok hh
    exact gstepC ha h1 fun K k => by unfold xop; rw [ho]; exact h2 K k
  · rename_i x st ho
    obtain ⟨v, c, h1, h2⟩ := nnext_ok hh
    exact gstepC ha h1 fun K k => by unfold xop; rw [ho]; exact h2 K k
  · cases hh

end
end Go.Proofs.YthpkehhghcpolaaDoor
