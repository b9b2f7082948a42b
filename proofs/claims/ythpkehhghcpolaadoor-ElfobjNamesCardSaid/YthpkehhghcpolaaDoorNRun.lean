/-
  A run without unknowns, step by step, as a function that Lean's kernel reckons; what it gives, the model gives.
-/
import Derived.Test.YthpkehhghcpolaaDoorNEval
namespace Go.Proofs.YthpkehhghcpolaaDoor
open Go.RowKit
set_option linter.unusedVariables false
set_option linter.unusedSimpArgs false

/-! ### Memory, as a tree -/

inductive Tr where
  | leaf | node (x : Option Blk) (l r : Tr)

noncomputable def Tr.get (t : Tr) : Nat → Option Blk :=
  @Tr.rec (fun _ => Nat → Option Blk) (fun _ => none)
    (fun x _ _ gl gr b => @Nat.rec (fun _ => Option Blk) x (fun k _ => @Bool.rec (fun _ => Option Blk) (gr (Nat.div k 2)) (gl (Nat.div k 2)) (Nat.beq (Nat.mod k 2) 0)) b) t

theorem Tr.get_leaf (b : Nat) : Tr.leaf.get b = none := rfl
theorem Tr.get_zero (x : Option Blk) (l r : Tr) : (Tr.node x l r).get 0 = x := rfl
theorem Tr.get_succ (x : Option Blk) (l r : Tr) (k : Nat) : (Tr.node x l r).get (k + 1) = if k % 2 = 0 then l.get (k / 2) else r.get (k / 2) := by
  show @Bool.rec (fun _ => Option Blk) (r.get (k / 2)) (l.get (k / 2)) (Nat.beq (k % 2) 0) = _
  by_cases h : k % 2 = 0
  · rw [h, if_pos rfl]; rfl
  · rw [if_neg h]
    cases hb : Nat.beq (k % 2) 0 with
    | false => rfl
    | true => exact (h (Nat.eq_of_beq_eq_true hb)).elim

section
variable {R : Type}

noncomputable def nnew : Nat → Nat → Blk → (Tr → Option R) → Option R
  | 0, _, _, _ => none
  | n + 1, b, x, K => @Nat.rec (fun _ => Option R) (K (.node (some x) .leaf .leaf)) (fun k _ => @Bool.rec (fun _ => Option R) (nnew n (Nat.div k 2) x fun r => K (.node none .leaf r)) (nnew n (Nat.div k 2) x fun l => K (.node none l .leaf)) (Nat.beq (Nat.mod k 2) 0)) b

noncomputable def nset (n : Nat) (t : Tr) (b : Nat) (x : Blk) (K : Tr → Option R) : Option R :=
  @Tr.rec (fun _ => Nat → Nat → Blk → (Tr → Option R) → Option R) nnew
    (fun y l r gl gr n b x K => @Nat.rec (fun _ => Option R) (K (.node (some x) l r)) (fun k _ => @Bool.rec (fun _ => Option R) (gr n (Nat.div k 2) x fun r => K (.node y l r)) (gl n (Nat.div k 2) x fun l => K (.node y l r)) (Nat.beq (Nat.mod k 2) 0)) b) t n b x K

theorem nnew_ok : ∀ {n : Nat} {b : Nat} {x : Blk} {K : Tr → Option R} {r : R}, nnew n b x K = some r → ∃ t', K t' = some r ∧ t'.get b = some x ∧ ∀ b', b' ≠ b → t'.get b' = none
  | 0, b, x, K, r, h => by simp [nnew] at h
  | n + 1, b, x, K, r, h => by
    unfold nnew at h
    cases b with
    | zero =>
      refine ⟨_, h, rfl, fun b' hb => ?_⟩
      cases b' with
      | zero => exact (hb rfl).elim
      | succ k => rw [Tr.get_succ]; simp [Tr.get_leaf]
    | succ k =>
      have h : @Bool.rec (fun _ => Option R) (nnew n (k / 2) x fun r => K (.node none .leaf r)) (nnew n (k / 2) x fun l => K (.node none l .leaf)) (Nat.beq (k % 2) 0) = some r := h
      cases hb : Nat.beq (k % 2) 0 with
      | false =>
        rw [hb] at h
        have hne : k % 2 ≠ 0 := fun e => by rw [e] at hb; cases hb
        obtain ⟨t', h1, h2, h3⟩ := nnew_ok h
        refine ⟨_, h1, by rw [Tr.get_succ, if_neg hne]; exact h2, fun b' hb' => ?_⟩
        cases b' with
        | zero => rfl
        | succ j =>
          rw [Tr.get_succ]
          split
          · rfl
          · exact h3 _ (by omega)
      | true =>
        rw [hb] at h
        have he : k % 2 = 0 := Nat.eq_of_beq_eq_true hb
        obtain ⟨t', h1, h2, h3⟩ := nnew_ok h
        refine ⟨_, h1, by rw [Tr.get_succ, if_pos he]; exact h2, fun b' hb' => ?_⟩
        cases b' with
        | zero => rfl
        | succ j =>
          rw [Tr.get_succ]
          split
          · exact h3 _ (by omega)
          · rfl

theorem nset_ok {n : Nat} : ∀ {t : Tr} {b : Nat} {x : Blk} {K : Tr → Option R} {r : R}, nset n t b x K = some r → ∃ t', K t' = some r ∧ t'.get b = some x ∧ ∀ b', b' ≠ b → t'.get b' = t.get b' := by
  intro t
  induction t with
  | leaf => intro b x K r h; exact nnew_ok (n := n) h
  | node y l r ihl ihr =>
    intro b x K q h
    cases b with
    | zero =>
      refine ⟨_, h, rfl, fun b' hb => ?_⟩
      cases b' with
      | zero => exact (hb rfl).elim
      | succ k => rw [Tr.get_succ, Tr.get_succ]
    | succ k =>
      have h : @Bool.rec (fun _ => Option R) (nset n r (k / 2) x fun r => K (.node y l r)) (nset n l (k / 2) x fun l => K (.node y l r)) (Nat.beq (k % 2) 0) = some q := h
      cases hb : Nat.beq (k % 2) 0 with
      | false =>
        rw [hb] at h
        have hne : k % 2 ≠ 0 := fun e => by rw [e] at hb; cases hb
        obtain ⟨t', h1, h2, h3⟩ := ihr h
        refine ⟨_, h1, by rw [Tr.get_succ, if_neg hne]; exact h2, fun b' hb' => ?_⟩
        cases b' with
        | zero => rfl
        | succ j =>
          rw [Tr.get_succ, Tr.get_succ]
          split
          · rfl
          · exact h3 _ (by omega)
      | true =>
        rw [hb] at h
        have he : k % 2 = 0 := Nat.eq_of_beq_eq_true hb
        obtain ⟨t', h1, h2, h3⟩ := ihl h
        refine ⟨_, h1, by rw [Tr.get_succ, if_pos he]; exact h2, fun b' hb' => ?_⟩
        cases b' with
        | zero => rfl
        | succ j =>
          rw [Tr.get_succ, Tr.get_succ]
          split
          · exact h3 _ (by omega)
          · rfl

/-! ### Reckoned at once -/

noncomputable def fN {α : Type} (n : Nat) (K : Nat → α) : α := @Nat.rec (fun _ => α) (K 0) (fun k _ => K (Nat.succ k)) n
noncomputable def fI {α : Type} (i : Int) (K : Int → α) : α := @Int.rec (fun _ => α) (fun n => fN n fun n => K (.ofNat n)) (fun n => fN n fun n => K (.negSucc n)) i
noncomputable def fL {α β : Type} (l : List β) (K : List β → α) : α := @List.rec β (fun _ => (List β → α) → α) (fun K => K []) (fun x _ go K => go fun r => K (x :: r)) l K
noncomputable def fK {α : Type} (k : IntKind) (K : IntKind → α) : α :=
  @IntKind.rec (fun _ => (IntKind → α) → α) (fun K => K .i8) (fun K => K .i16) (fun K => K .i32) (fun K => K .i64) (fun K => K .u8) (fun K => K .u16) (fun K => K .u32) (fun K => K .u64) k K
noncomputable def fBo {α : Type} (b : Bool) (K : Bool → α) : α := @Bool.rec (fun _ => α) (K false) (K true) b

theorem fN_eq {α : Type} (n : Nat) (K : Nat → α) : fN n K = K n := by cases n <;> rfl
theorem fI_eq {α : Type} (i : Int) (K : Int → α) : fI i K = K i := by
  cases i with
  | ofNat n => exact fN_eq n fun n => K (.ofNat n)
  | negSucc n => exact fN_eq n fun n => K (.negSucc n)
theorem fL_eq {α β : Type} : ∀ (l : List β) (K : List β → α), fL l K = K l
  | [], K => rfl
  | x :: r, K => fL_eq r fun r => K (x :: r)
theorem fK_eq {α : Type} (k : IntKind) (K : IntKind → α) : fK k K = K k := by cases k <;> rfl
theorem fBo_eq {α : Type} (b : Bool) (K : Bool → α) : fBo b K = K b := by cases b <;> rfl

noncomputable def fTint {α : Type} (k : IntKind) (n : Int) (K : T → α) : α := fK k fun k => fI n fun n => K (.int k n)
/-- Data: its head, numbers, lists reckoned. -/
noncomputable def fT {α : Type} (x : T) (K : T → α) : α :=
  @T.rec (fun _ => (T → α) → α) (fun _ => Unit)
    (fun b K => @Bool.rec (fun _ => α) (K (.bool false)) (K (.bool true)) b) (fun k n K => fTint k n K) (fun s K => K (.str s)) (fun K => K .nilp) (fun K => K .nils) (fun K => K .nilf) (fun K => K .nili)
    (fun cs _ K => fL cs fun cs => K (.iptr cs)) (fun s l _ K => fL l fun l => K (.vec s l)) (fun cs _ K => fL cs fun cs => K (.agg cs))
    (fun f a b _ _ K => K (.fn f a b)) (fun t v _ K => K (.ifc t v)) () (fun _ _ _ _ => ()) x K

/-- A value's head alone. -/
noncomputable def fA {α : Type} (x : AV) (K : AV → α) : α :=
  @AV.rec (fun _ => (AV → α) → α) (fun _ => Unit)
    (fun x K => K (.t x)) (fun b g i o K => K (.ptr b g i o)) (fun b g i n K => K (.sl b g i n)) (fun cs _ K => K (.agg cs)) (fun cs _ K => K (.tup cs)) (fun f a b _ _ K => K (.fn f a b)) (fun t v _ K => K (.ifc t v))
    (fun e s z l K => K (.own e s z l)) (fun K => K .emp) (fun K => K .junk) () (fun _ _ _ _ => ()) x K

theorem fT_eq {α : Type} (x : T) (K : T → α) : fT x K = K x := by
  cases x with
  | bool b => cases b <;> rfl
  | int k n => exact (fK_eq k _).trans (fI_eq n _)
  | iptr cs => exact fL_eq cs _
  | vec s l => exact fL_eq l _
  | agg cs => exact fL_eq cs _
  | _ => rfl
theorem fA_eq {α : Type} (x : AV) (K : AV → α) : fA x K = K x := by cases x <;> rfl

noncomputable def fAs {α : Type} (l : List AV) (K : List AV → α) : α := @List.rec AV (fun _ => (List AV → α) → α) (fun K => K []) (fun x _ go K => fA x fun x => go fun r => K (x :: r)) l K
theorem fAs_eq {α : Type} : ∀ (l : List AV) (K : List AV → α), fAs l K = K l
  | [], K => rfl
  | x :: r, K => by
    show fA x (fun x => fAs r fun r => K (x :: r)) = _
    rw [fA_eq, fAs_eq]

noncomputable def fV {α : Type} (x : AV) (K : AV → α) : α :=
  @AV.rec (fun _ => (AV → α) → α) (fun _ => Unit)
    (fun x K => fT x fun x => K (.t x)) (fun b g i o K => fN b fun b => fN g fun g => fN i fun i => fN o fun o => K (.ptr b g i o)) (fun b g i n K => fN b fun b => fN g fun g => fN i fun i => fN n fun n => K (.sl b g i n))
    (fun cs _ K => fAs cs fun cs => K (.agg cs)) (fun cs _ K => fAs cs fun cs => K (.tup cs)) (fun f a b _ _ K => fAs a fun a => fAs b fun b => K (.fn f a b)) (fun t v _ K => fA v fun v => K (.ifc t v))
    (fun e s z l K => K (.own e s z l)) (fun K => K .emp) (fun K => K .junk) () (fun _ _ _ _ => ()) x K
theorem fV_eq {α : Type} (x : AV) (K : AV → α) : fV x K = K x := by
  cases x with
  | t x => exact fT_eq x _
  | ptr b g i o => show fN b (fun b => fN g fun g => fN i fun i => fN o fun o => K (.ptr b g i o)) = _; simp only [fN_eq]
  | sl b g i n => show fN b (fun b => fN g fun g => fN i fun i => fN n fun n => K (.sl b g i n)) = _; simp only [fN_eq]
  | agg cs => exact fAs_eq cs _
  | tup cs => exact fAs_eq cs _
  | fn f a b => show fAs a (fun a => fAs b fun b => K (.fn f a b)) = _; simp only [fAs_eq]
  | ifc t v => exact fA_eq v _
  | _ => rfl

noncomputable def fSq {α : Type} (l : Sq) (K : Sq → α) : α := @Sq.rec (fun _ => (Sq → α) → α) (fun l K => fL l fun l => K (.ts l)) (fun l K => fAs l fun l => K (.vs l)) l K
theorem fSq_eq {α : Type} (l : Sq) (K : Sq → α) : fSq l K = K l := by
  cases l with
  | ts l => exact fL_eq l _
  | vs l => exact fAs_eq l _

noncomputable def fB {α : Type} (b : Blk) (K : Blk → α) : α :=
  @Blk.rec (fun _ => (Blk → α) → α) (fun K => K .dead) (fun cells K => fAs cells fun cells => K (.box cells))
    (fun e s z g l K => fN s fun s => fBo z fun z => fN g fun g => fSq l fun l => K (.arr e s z g l)) (fun s p K => fN p fun p => K (.iter s p)) b K
theorem fB_eq {α : Type} (b : Blk) (K : Blk → α) : fB b K = K b := by
  cases b with
  | dead => rfl
  | box cells => exact fAs_eq cells _
  | arr e s z g l => show fN s (fun s => fBo z fun z => fN g fun g => fSq l fun l => K (.arr e s z g l)) = _; simp only [fN_eq, fBo_eq, fSq_eq]
  | iter s p => exact fN_eq p fun p => K (.iter s p)

end

/-! ### States -/

/-- The walk's own memory: the blocks, how many, and the least that was written since it was last looked. -/
structure NH where
  hp : Tr
  len : Nat
  lo : Nat

structure NS where
  env : List (Nat × AV)
  h : NH

noncomputable def nlk (env : List (Nat × AV)) (k : Nat) : AV := @List.rec (Nat × AV) (fun _ => AV) .junk (fun p _ go => @Prod.rec Nat AV (fun _ => AV) (fun a v => @Bool.rec (fun _ => AV) go v (Nat.beq a k)) p) env
theorem nlk_eq : ∀ (env : List (Nat × AV)) (k : Nat), nlk env k = lk env k
  | [], k => rfl
  | (a, v) :: r, k => by
    show @Bool.rec (fun _ => AV) (nlk r k) v (Nat.beq a k) = _
    rw [nlk_eq r k]
    simp only [lk]
    cases Nat.beq a k <;> rfl

noncomputable def nopd (env : List (Nat × AV)) : Operand → AV
  | .tmp t => nlk env t
  | .const v => ofVal v
  | .global _ => .junk
  | .func f => .t (.fn (.func f) [] [])
theorem nopd_eq (env : List (Nat × AV)) (x : Operand) : nopd env x = opd env x := by cases x <;> simp only [nopd, opd, nlk_eq]
theorem nopd_fun (env : List (Nat × AV)) : nopd env = opd env := funext (nopd_eq env)

def nput (d : Option Tmp) (v : AV) (env : List (Nat × AV)) : List (Nat × AV) :=
  match d with
  | some d => (d, v) :: env
  | none => env

/-- The tree holds that memory. -/
structure HA (h : NH) (H : AH) : Prop where
  len : H.length = h.len
  get : h.hp.get = gt H

/-- The blocks below 'lo' are as they were. -/
structure Stay (lo : Nat) (H H' : AH) : Prop where
  len : H.length ≤ H'.length
  at_ : ∀ b, b < lo → b < H.length → H'[b]? = H[b]?

theorem Stay.refl (lo : Nat) (H : AH) : Stay lo H H := ⟨Nat.le_refl _, fun _ _ _ => rfl⟩
theorem Stay.trans {lo lo' : Nat} {H H' H'' : AH} (h : Stay lo H H') (k : Stay lo' H' H'') (hl : lo' ≤ lo) : Stay lo' H H'' :=
  ⟨Nat.le_trans h.len k.len, fun b h1 h2 => (k.at_ b h1 (Nat.lt_of_lt_of_le h2 h.len)).trans (h.at_ b (Nat.lt_of_lt_of_le h1 hl) h2)⟩
theorem Stay.le {lo lo' : Nat} {H H' : AH} (h : Stay lo H H') (hl : lo' ≤ lo) : Stay lo' H H' := ⟨h.len, fun b h1 h2 => h.at_ b (Nat.lt_of_lt_of_le h1 hl) h2⟩

/-- What an operation did to memory is put into the tree. -/
noncomputable def nstp (d : Option Tmp) (env : List (Nat × AV)) (h : NH) (v : AV) (c : HC) : Option NS :=
  fV v fun v =>
  match h with
  | ⟨hp, len, lo⟩ =>
  match c with
  | .no => some ⟨nput d v env, ⟨hp, len, lo⟩⟩
  | .push b => fB b fun b => nset 24 hp len b fun hp => fN (Nat.succ len) fun len => some ⟨nput d v env, ⟨hp, len, lo⟩⟩
  | .set b blk => fB blk fun blk => @Bool.rec (fun _ => Option NS) none (nset 24 hp b blk fun hp => @Bool.rec (fun _ => Option NS) (some ⟨nput d v env, ⟨hp, len, lo⟩⟩) (some ⟨nput d v env, ⟨hp, len, b⟩⟩) (Nat.ble b lo)) (Nat.blt b len)

theorem nstp_ok {d : Option Tmp} {env : List (Nat × AV)} {h : NH} {v : AV} {c : HC} {s' : NS} (hh : nstp d env h v c = some s') {H : AH} (ha : HA h H) :
    s'.env = nput d v env ∧ HA s'.h (c.on H) ∧ Stay s'.h.lo H (c.on H) ∧ s'.h.lo ≤ h.lo := by
  unfold nstp at hh
  rw [fV_eq] at hh
  obtain ⟨hp, len, lo⟩ := h
  cases c with
  | no =>
    simp only [Option.some.injEq] at hh
    subst hh
    exact ⟨rfl, ha, Stay.refl _ _, Nat.le_refl _⟩
  | push b =>
    simp only [fB_eq] at hh
    obtain ⟨t', h1, h2, h3⟩ := nset_ok hh
    rw [fN_eq] at h1
    cases h1
    refine ⟨rfl, ⟨by simp [HC.on, ha.len], funext fun i => ?_⟩, ⟨by simp [HC.on], fun i _ hi => by simp only [HC.on]; rw [List.getElem?_append_left hi]⟩, Nat.le_refl _⟩
    have hl : H.length = len := ha.len
    simp only [HC.on, gt]
    by_cases e : i = len
    · subst e; rw [h2, ← hl]; simp
    · rw [h3 i e, show hp.get i = H[i]? from congrFun ha.get i]
      by_cases hlt : i < H.length
      · rw [List.getElem?_append_left hlt]
      · rw [List.getElem?_eq_none (by omega), List.getElem?_eq_none (by simp; omega)]
  | set b blk =>
    simp only [fB_eq] at hh
    have hl : H.length = len := ha.len
    cases hc : Nat.blt b len with
    | false => rw [hc] at hh; cases hh
    | true =>
      rw [hc] at hh
      have hlt : b < len := by simpa [Nat.blt_eq] using hc
      obtain ⟨t', h1, h2, h3⟩ := nset_ok (show nset 24 hp b blk _ = some s' from hh)
      have hget : t'.get = gt (H.set b blk) := funext fun i => by
        simp only [gt]
        by_cases e : i = b
        · subst e; rw [h2, List.getElem?_set_self (by omega)]
        · rw [h3 i e, List.getElem?_set_ne (fun h => e h.symm)]; exact congrFun ha.get i
      cases hb : Nat.ble b lo with
      | false =>
        rw [hb] at h1
        cases h1
        have hgt : lo < b := Nat.lt_of_not_le fun hle => by rw [Nat.ble_eq_true_of_le hle] at hb; cases hb
        exact ⟨rfl, ⟨by simp [HC.on, hl], hget⟩, ⟨by simp [HC.on], fun i h4 h5 => by simp only [HC.on]; rw [List.getElem?_set_ne (by simp only at h4; omega)]⟩, Nat.le_refl _⟩
      | true =>
        rw [hb] at h1
        cases h1
        exact ⟨rfl, ⟨by simp [HC.on, hl], hget⟩, ⟨by simp [HC.on], fun i h4 h5 => by simp only [HC.on]; rw [List.getElem?_set_ne (by simp only at h4; omega)]⟩, Nat.le_of_ble_eq_true hb⟩

/-! ### Operations -/

abbrev CallN := FuncId → List AV → NH → Option (AV × NH)

def CallOK (P : Program) (call : CallN) : Prop := ∀ {f : FuncId} {args : List AV} {h : NH} {v : AV} {h' : NH}, call f args h = some (v, h') → ∀ {H : AH}, HA h H →
  ∃ H', HA h' H' ∧ Stay h'.lo H H' ∧ h'.lo ≤ h.lo ∧ CallS P f args H (fun r H'' => r = v ∧ H'' = H')

/-- A call, and what comes back is put into its slot. -/
noncomputable def ndo (call : CallN) (g : FuncId) (args : List AV) (d : Option Tmp) (env : List (Nat × AV)) (h : NH) : Option NS :=
  match call g args h with
  | some (v, h') => nstp d env h' v .no
  | none => none

noncomputable def ncl (tab : Tab) (call : CallN) (c : Call) (ty : TypeId) (d : Option Tmp) (env : List (Nat × AV)) (h : NH) : Option NS :=
  match c.callee with
  | .builtin b =>
    (match b, c.argTypes.toList, c.args.toList with
    | .len, [t], [x] => nlen tab t h.hp.get (nopd env x) fun v => nstp d env h v .no
    | .append, [t, u], [x, y] => NOpt (tab u) fun z => (match isIntD z.d with | true => nappendZ tab t (nopd env x) (nopd env y) h.hp.get h.len (nstp d env h) | false => nappend tab t h.hp.get h.len (nopd env x) (nopd env y) (nstp d env h))
    | .cap, [t], [x] => ncap tab t h.hp.get (nopd env x) fun v => nstp d env h v .no
    | .copy, [t, _], [x, y] => ncopy tab t (nopd env x) (nopd env y) h.hp.get (nstp d env h)
    | .min, _, [x, y] => nminmax false (nopd env x) (nopd env y) fun v => nstp d env h v .no
    | .max, _, [x, y] => nminmax true (nopd env x) (nopd env y) fun v => nstp d env h v .no
    | _, _, _ => none)
  | .value f =>
    (match nopd env f with
    | .t (.fn (.func g) first captured) => fAs (first.map .t ++ (c.args.toList.map (nopd env) ++ captured.map .t)) fun args => ndo call g args d env h
    | .fn (.func g) first captured => fAs (first ++ (c.args.toList.map (nopd env) ++ captured)) fun args => ndo call g args d env h
    | _ => none)
  | .invoke _ _ => none

noncomputable def nop (tab : Tab) (eqs : TypeId → Bool) (call : CallN) (o : Oper) (env : List (Nat × AV)) (h : NH) : Option NS :=
  match o.op with
  | .move x => nstp o.dst env h (nopd env x) .no
  | .assign x => nassign tab o.type (nopd env x) h.hp.get h.len (nstp o.dst env h)
  | .pick c a b => npick (nopd env c) (nopd env a) (nopd env b) fun v => nstp o.dst env h v .no
  | .alloc e => NOpt (tab e) fun y => NOpt y.zero fun zs => NCk (zs.all T.one && Nat.beq zs.length y.size) (nstp o.dst env h (.ptr h.len 0 0 0) (.push (.box (zs.map .t))))
  | .box e x => NCk ((nopd env x).cells.all AV.one) (nstp o.dst env h (.ptr h.len 0 0 0) (.push (.box (nopd env x).cells)))
  | .build t parts => nbuild tab t (parts.toList.map fun p => (p.1, nopd env p.2)) fun v => nstp o.dst env h v .no
  | .buildSlice t n parts => nbuildSlice tab t n (parts.toList.map fun p => (p.1, nopd env p.2)) h.hp.get h.len (nstp o.dst env h)
  | .load t a => nload tab t h.hp.get (nopd env a) fun v => nstp o.dst env h v .no
  | .store t a x => nstore tab t h.hp.get (nopd env a) (nopd env x) fun c => nstp o.dst env h (.tup []) c
  | .nilCheck x => nnilCheck h.hp.get (nopd env x) fun v => nstp o.dst env h v .no
  | .binOp op t x y _ => nbin tab eqs op t h.hp.get (nopd env x) (nopd env y) (isConst y) fun v => nstp o.dst env h (.t v) .no
  | .unOp op _ x => nun op (nopd env x) fun v => nstp o.dst env h (.t v) .no
  | .convert s d x => nconvert tab s d (nopd env x) h.hp.get fun v => nstp o.dst env h v .no
  | .makeInterface t x => NOpt (tab t) fun y => NCk (match y.d with | .interface _ => false | _ => true)
      (match nopd env x with | .t v => nstp o.dst env h (.t (.ifc t v)) .no | v => nstp o.dst env h (.ifc t v) .no)
  | .makeFunc f first captured => nstp o.dst env h (.fn f (first.toList.map (nopd env)) (captured.toList.map (nopd env))) .no
  | .makeSlice t l c => nmakeSlice tab t (nopd env l) (nopd env c) h.hp.get h.len (nstp o.dst env h)
  | .slice t x lo hi mx => nslice tab t h.hp.get (nopd env x) (lo.map (nopd env)) (hi.map (nopd env)) (mx.map (nopd env)) fun v => nstp o.dst env h v .no
  | .fieldAddr t x k => nfieldAddr tab t h.hp.get (nopd env x) k fun v => nstp o.dst env h v .no
  | .field t x k => nfield tab t (nopd env x) k fun v => nstp o.dst env h v .no
  | .indexAddr t x i => nindexAddr tab t h.hp.get (nopd env x) (nopd env i) fun v => nstp o.dst env h v .no
  | .index t x i => nindex tab t (nopd env x) (nopd env i) fun v => nstp o.dst env h v .no
  | .extract x i => nextract (nopd env x) i fun v => nstp o.dst env h v .no
  | .call c => ncl tab call c o.type o.dst env h
  | .range t x => nrange tab t (nopd env x) h.hp.get h.len (nstp o.dst env h)
  | .next x st => nnext (nopd env x) st h.hp.get (nstp o.dst env h)
  | _ => none

/-- What a step says: of the state behind it, and of the walk. -/
structure Step (h : NH) (H : AH) (d : Option Tmp) (env : List (Nat × AV)) (s' : NS) (X : (AV → AH → Prop) → Prop) (v : AV) (H' : AH) : Prop where
  env : s'.env = nput d v env
  ha : HA s'.h H'
  stay : Stay s'.h.lo H H'
  lo : s'.h.lo ≤ h.lo
  x : ∀ K, K v H' → X K

section
variable {P : Program} {tab : Tab} {eqs : TypeId → Bool} {call : CallN}

theorem stepC {d : Option Tmp} {env : List (Nat × AV)} {h : NH} {H : AH} (ha : HA h H) {s' : NS} {v : AV} {c : HC} {X : (AV → AH → Prop) → Prop} (hh : nstp d env h v c = some s') (hx : ∀ K, K v (c.on H) → X K) : ∃ v H', Step h H d env s' X v H' := by
  obtain ⟨h1, h2, h3, h4⟩ := nstp_ok hh ha
  exact ⟨v, _, h1, h2, h3, h4, hx⟩

theorem stepD (hC : CallOK P call) {g : FuncId} {args : List AV} {d : Option Tmp} {env : List (Nat × AV)} {h : NH} {H : AH} (ha : HA h H) {s' : NS} (hh : ndo call g args d env h = some s') : ∃ v H', Step h H d env s' (CallS P g args H) v H' := by
  unfold ndo at hh
  split at hh
  · rename_i v h' hc
    obtain ⟨H', k1, k2, k3, k4⟩ := hC hc ha
    obtain ⟨h1, h2, h3, h4⟩ := nstp_ok hh k1
    exact ⟨v, H', h1, h2, (k2.trans h3 h4), Nat.le_trans h4 k3, fun K k => k4.mono fun r H'' ⟨e1, e2⟩ => by rw [e1, e2]; exact k⟩
  · cases hh

theorem nop_ok (hC : CallOK P call) (hE : ∀ t y, eqs t = true → tab t = some y → y.eqOK) {o : Oper} {env : List (Nat × AV)} {h : NH} {H : AH} (ha : HA h H) {s' : NS} (hh : nop tab eqs call o env h = some s') :
    ∃ v H', Step h H o.dst env s' (xop tab (CallS P) o env H) v H' := by
  unfold nop at hh
  rw [nopd_fun, ha.get, ← ha.len] at hh
  split at hh
  · rename_i x ho
    exact stepC ha hh fun K k => by unfold xop; rw [ho]; exact k
  · rename_i x ho
    obtain ⟨v, c, h1, h2⟩ := nassign_ok hh
    exact stepC ha h1 fun K k => by unfold xop; rw [ho]; exact h2 K k
  · rename_i x y z ho
    obtain ⟨v, h1, h2⟩ := npick_ok hh
    exact stepC ha h1 fun K k => by unfold xop; rw [ho]; exact h2 (fun v => K v H) k
  · rename_i e ho
    simp only [nopt_iff, nck_iff] at hh
    obtain ⟨y, hy, zs, hz, hc, hh⟩ := hh
    exact stepC ha hh fun K k => by unfold xop; rw [ho]; simp only [opt_iff, ck_iff]; exact ⟨y, hy, zs, hz, hc, k⟩
  · rename_i e x ho
    simp only [nck_iff] at hh
    exact stepC ha hh.2 fun K k => by unfold xop; rw [ho]; simp only [ck_iff]; exact ⟨hh.1, k⟩
  · rename_i t parts ho
    obtain ⟨v, h1, h2⟩ := nbuild_ok hh
    exact stepC ha h1 fun K k => by unfold xop; rw [ho]; exact h2 (fun v => K v H) k
  · rename_i t n parts ho
    obtain ⟨v, c, h1, h2⟩ := nbuildSlice_ok hh
    exact stepC ha h1 fun K k => by unfold xop; rw [ho]; exact h2 K k
  · rename_i t x ho
    obtain ⟨v, h1, h2⟩ := nload_ok hh
    exact stepC ha h1 fun K k => by unfold xop; rw [ho]; exact h2 (fun v => K v H) k
  · rename_i t x y ho
    obtain ⟨c, h1, h2⟩ := nstore_ok hh
    exact stepC ha h1 fun K k => by unfold xop; rw [ho]; exact h2 (fun H => K (.tup []) H) k
  · rename_i x ho
    obtain ⟨v, h1, h2⟩ := nnilCheck_ok hh
    exact stepC ha h1 fun K k => by unfold xop; rw [ho]; exact h2 (fun v => K v H) k
  · rename_i op t x y t2 ho
    obtain ⟨v, h1, h2⟩ := nbin_ok hE hh
    exact stepC ha h1 fun K k => by unfold xop; rw [ho]; exact h2 (fun v => K (.t v) H) k
  · rename_i op t x ho
    obtain ⟨v, h1, h2⟩ := nun_ok hh
    exact stepC ha h1 fun K k => by unfold xop; rw [ho]; exact h2 (fun v => K (.t v) H) k
  · rename_i t u x ho
    obtain ⟨v, h1, h2⟩ := nconvert_ok hh
    exact stepC ha h1 fun K k => by unfold xop; rw [ho]; exact h2 (fun v => K v H) k
  · rename_i t x ho
    simp only [nopt_iff, nck_iff] at hh
    obtain ⟨y, hy, hc, hh⟩ := hh
    split at hh
    · rename_i v hv
      exact stepC ha hh fun K k => by unfold xop; rw [ho]; simp only [opt_iff, ck_iff]; refine ⟨y, hy, hc, ?_⟩; rw [hv]; exact k
    · rename_i n1
      refine stepC ha hh fun K k => ?_
      unfold xop; rw [ho]; simp only [opt_iff, ck_iff]; refine ⟨y, hy, hc, ?_⟩
      exact k
  · rename_i f first captured ho
    exact stepC ha hh fun K k => by unfold xop; rw [ho]; exact k
  · rename_i t l cp ho
    obtain ⟨v, c, h1, h2⟩ := nmakeSlice_ok hh
    exact stepC ha h1 fun K k => by unfold xop; rw [ho]; exact h2 K k
  · rename_i t x lo hi mx ho
    obtain ⟨v, h1, h2⟩ := nslice_ok hh
    exact stepC ha h1 fun K k => by unfold xop; rw [ho]; exact h2 (fun v => K v H) k
  · rename_i t x k0 ho
    obtain ⟨v, h1, h2⟩ := nfieldAddr_ok hh
    exact stepC ha h1 fun K k => by unfold xop; rw [ho]; exact h2 (fun v => K v H) k
  · rename_i t x k0 ho
    obtain ⟨v, h1, h2⟩ := nfield_ok hh
    exact stepC ha h1 fun K k => by unfold xop; rw [ho]; exact h2 (fun v => K v H) k
  · rename_i t x i ho
    obtain ⟨v, h1, h2⟩ := nindexAddr_ok hh
    exact stepC ha h1 fun K k => by unfold xop; rw [ho]; exact h2 (fun v => K v H) k
  · rename_i t x i ho
    obtain ⟨v, h1, h2⟩ := nindex_ok hh
    exact stepC ha h1 fun K k => by unfold xop; rw [ho]; exact h2 (fun v => K v H) k
  · rename_i x i ho
    obtain ⟨v, h1, h2⟩ := nextract_ok hh
    exact stepC ha h1 fun K k => by unfold xop; rw [ho]; exact h2 (fun v => K v H) k
  · rename_i cl ho
    unfold ncl at hh
    rw [nopd_fun, ha.get, ← ha.len] at hh
    have hx : ∀ K, xcall tab (CallS P) cl o.type env H K → xop tab (CallS P) o env H K := fun K k => by unfold xop; rw [ho]; exact k
    split at hh
    · rename_i b hcb
      split at hh
      · rename_i t x h1 h2
        obtain ⟨v, k1, k2⟩ := nlen_ok hh
        exact stepC ha k1 fun K k => hx K (by unfold xcall; rw [hcb]; simp only; rw [h1, h2]; exact k2 (fun v => K v H) k)
      · rename_i t u x y h1 h2
        rw [nopt_iff] at hh
        obtain ⟨z, hz, hh⟩ := hh
        split at hh
        · rename_i hc
          obtain ⟨v, c, k1, k2⟩ := nappendZ_ok hh
          exact stepC ha k1 fun K k => hx K (by unfold xcall; rw [hcb]; simp only; rw [h1, h2]; refine opt_intro hz ?_; rw [hc]; exact k2 K k)
        · rename_i hc
          obtain ⟨v, c, k1, k2⟩ := nappend_ok hh
          exact stepC ha k1 fun K k => hx K (by unfold xcall; rw [hcb]; simp only; rw [h1, h2]; refine opt_intro hz ?_; rw [hc]; exact k2 K k)
      · rename_i t x h1 h2
        obtain ⟨v, k1, k2⟩ := ncap_ok hh
        exact stepC ha k1 fun K k => hx K (by unfold xcall; rw [hcb]; simp only; rw [h1, h2]; exact k2 (fun v => K v H) k)
      · rename_i t u x y h1 h2
        obtain ⟨v, c, k1, k2⟩ := ncopy_ok hh
        exact stepC ha k1 fun K k => hx K (by unfold xcall; rw [hcb]; simp only; rw [h1, h2]; exact k2 K k)
      · rename_i x y h2
        obtain ⟨v, k1, k2⟩ := nminmax_ok hh
        exact stepC ha k1 fun K k => hx K (by unfold xcall; rw [hcb]; simp only; rw [h2]; exact k2 (fun v => K v H) k)
      · rename_i x y h2
        obtain ⟨v, k1, k2⟩ := nminmax_ok hh
        exact stepC ha k1 fun K k => hx K (by unfold xcall; rw [hcb]; simp only; rw [h2]; exact k2 (fun v => K v H) k)
      · cases hh
    · rename_i f hcf
      split at hh
      · rename_i g first captured hf
        rw [fAs_eq] at hh
        obtain ⟨v, H', hst⟩ := stepD hC ha hh
        exact ⟨v, H', hst.env, hst.ha, hst.stay, hst.lo, fun K k => hx K (by unfold xcall; rw [hcf]; simp only; rw [hf]; exact hst.x K k)⟩
      · rename_i g first captured hf
        rw [fAs_eq] at hh
        obtain ⟨v, H', hst⟩ := stepD hC ha hh
        exact ⟨v, H', hst.env, hst.ha, hst.stay, hst.lo, fun K k => hx K (by unfold xcall; rw [hcf]; simp only; rw [hf]; exact hst.x K k)⟩
      · cases hh
    · cases hh
  · rename_i t x ho
    obtain ⟨v, c, h1, h2⟩ := nrange_ok hh
    exact stepC ha h1 fun K k => by unfold xop; rw [ho]; exact h2 K k
  · rename_i x st ho
    obtain ⟨v, c, h1, h2⟩ := nnext_ok hh
    exact stepC ha h1 fun K k => by unfold xop; rw [ho]; exact h2 K k
  · cases hh

end
end Go.Proofs.YthpkehhghcpolaaDoor
