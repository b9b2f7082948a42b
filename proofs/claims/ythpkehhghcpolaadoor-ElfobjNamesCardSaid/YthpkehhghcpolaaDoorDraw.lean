/-
  Regions that draw their order: reads may come whenever what they need is there; all else comes in one order.
-/
import Derived.Test.YthpkehhghcpolaaDoorMake
import Derived.Orders
namespace Go.Proofs.YthpkehhghcpolaaDoor
open Go.RowKit
set_option linter.unusedVariables false
set_option linter.unusedSimpArgs false

def isRd (o : Oper) : Bool :=
  match o.op with
  | .move _ => true
  | .pick _ _ _ => true
  | .build _ _ => true
  | .load _ _ => true
  | .nilCheck _ => true
  | .binOp _ _ _ _ _ => true
  | .unOp _ _ _ => true
  | .convert _ _ _ => true
  | .slice _ _ _ _ _ => true
  | .fieldAddr _ _ _ => true
  | .field _ _ _ => true
  | .indexAddr _ _ _ => true
  | .index _ _ _ => true
  | .extract _ _ => true
  | .makeInterface _ _ => true
  | .makeFunc _ _ _ => true
  | .call c => (match c.callee with | .builtin .len => true | .builtin .min => true | .builtin .max => true | _ => false)
  | _ => false

/-- A reading operation, or none, as its guard says. -/
def xgR (tab : Tab) (ops : Array Oper) (D : List Nat) (o : Oper) (s : St) (K : St → Prop) : Prop :=
  match s with
  | ⟨env, H⟩ =>
  match o.guard with
  | none => xread tab o env (hide D H) fun v => stp ⟨env, H⟩ o.dst v H K
  | some (j, want) =>
    Opt (guardSlot ops j) fun d =>
    match lk env d with
    | .t (.bool c) =>
      (match want with
      | true => Br c (xread tab o ((d, .t (.bool true)) :: env) (hide D H) fun v => stp ⟨(d, .t (.bool true)) :: env, H⟩ o.dst v H K) (stp ⟨(d, .t (.bool false)) :: env, H⟩ o.dst (.tup []) H K)
      | false => Br c (stp ⟨(d, .t (.bool true)) :: env, H⟩ o.dst (.tup []) H K) (xread tab o ((d, .t (.bool false)) :: env) (hide D H) fun v => stp ⟨(d, .t (.bool false)) :: env, H⟩ o.dst v H K))
    | .tup [] => stp ⟨env, H⟩ o.dst (.tup []) H K
    | _ => False

def binders (o : Oper) : List Nat := (o.after.toList.filter fun e => Region.binds .any e).map (·.on)

def bits (ms : List Nat) : List Nat → Nat
  | [] => 0
  | j :: r => (1 <<< j) ||| (ms.getD j 0 ||| bits ms r)

/-- Of each operation, all that must come before it (as the bits of a number). -/
def masksAux : List Oper → List Nat → List Nat
  | [], ms => ms
  | o :: r, ms => masksAux r (ms ++ [bits ms (binders o)])

def masks (ops : Array Oper) : List Nat := masksAux ops.toList []

/-- An order of a region's operations; two that write may come in either order ('race': both). -/
inductive Ord where
  | nil
  | op (i : Nat) (un : List Nat) (r : Ord)
  | race (a b : Ord)

/-- The walk of a region in an order of its own. With each that writes: what came before it in the walk, and needn't in the model. 'D': of each that reads, blocks that may be written before it in the model. -/
def xdr (tab : Tab) (call : CallP) (ops : Array Oper) (D : Nat → List Nat) : Ord → St → (St → Prop) → Prop
  | .nil, s, K => K s
  | .race a b, s, K => xdr tab call ops D a s K ∧ xdr tab call ops D b s K
  | .op i un r, s, K =>
    Opt ops[i]? fun o =>
    match isRd o with
    | true => xgR tab ops (D i) o s fun s' => xdr tab call ops D r s' K
    | false =>
      match isMk o with
      | true => Ck (!(D i).contains s.H.length) (xguard tab call ops o s fun s' => xdr tab call ops D r s' K)
      | false => xguard tab call ops o s fun s' => (∀ j ∈ un, LeX (D j) s.H s'.H) ∧ xdr tab call ops D r s' K

/-! ### What must come before what -/

def apartOps (ops : Array Oper) (oj oi : Oper) : Bool :=
  (isRd oj || isMk oj) && (match oj.dst with | some d => !(oi.looksAt ops).contains d | none => true) && (match oi.dst with | some d => !(oj.looksAt ops).contains d && (match oj.dst with | some d' => !Nat.beq d d' | none => true) | none => true)

/-- Does it write, call or the like? -/
def chainB (ops : Array Oper) (j : Nat) : Bool :=
  match ops[j]? with
  | some o => !isRd o && !isMk o
  | none => false

def Ord.head : Ord → Option Nat
  | .op i _ _ => some i
  | _ => none

/-- Is the order one in which the region can be walked? ('R': of two that write, the second may come behind the first, though it needn't.) -/
def drawOK (ops : Array Oper) (ms : List Nat) : Ord → List (Nat × Nat) → List Nat → Bool
  | .nil, _, done => (List.range ops.size).all fun i => done.contains i
  | .race a b, R, done =>
    (match a.head, b.head with
    | some j, some i => chainB ops j && chainB ops i && drawOK ops ms a ((j, i) :: R) done && drawOK ops ms b ((i, j) :: R) done
    | _, _ => false)
  | .op i un r, R, done =>
    (match ops[i]? with
    | some oi =>
      (binders oi).all (fun j => done.contains j) &&
      done.all (fun j => !Nat.beq i j && ((ms.getD i 0).testBit j || (match ops[j]? with | some oj => apartOps ops oj oi | none => false) || (R.contains (j, i) && chainB ops j))) &&
      (!chainB ops i || done.all fun j => (ms.getD i 0).testBit j || chainB ops j || un.contains j)
    | none => false) && drawOK ops ms r R (i :: done)

/-- An order without races: with each operation, whether all before it is needed by it. -/
def ofL (ops : Array Oper) (ms : List Nat) : List (Nat × Bool) → List Nat → Ord
  | [], _ => .nil
  | (i, fl) :: r, done => .op i (match fl with | true => [] | false => done.filter fun j => !((ms.getD i 0).testBit j || chainB ops j)) (ofL ops ms r (i :: done))

/-! ### Listed operations -/

/-- What is listed has all before it that must be. -/
def Closed (ops : Array Oper) (L : Nat → Bool) : Prop := ∀ i o, ops[i]? = some o → L i = true → ∀ j ∈ binders o, L j = true

theorem bits_spec {ms : List Nat} {j : Nat} : ∀ {l : List Nat}, (bits ms l).testBit j = true → ∃ k ∈ l, k = j ∨ (ms.getD k 0).testBit j = true
  | [], h => by simp [bits] at h
  | k :: r, h => by
    simp only [bits, Nat.testBit_or, Bool.or_eq_true, Nat.one_shiftLeft, Nat.testBit_two_pow, decide_eq_true_eq] at h
    rcases h with h | h | h
    · exact ⟨k, by simp, .inl h⟩
    · exact ⟨k, by simp, .inr h⟩
    · obtain ⟨k', h1, h2⟩ := bits_spec h
      exact ⟨k', by simp [h1], h2⟩

/-- The bits of each number are what must come before. -/
def MsOK (ops : Array Oper) (ms : List Nat) : Prop := ∀ i j, (ms.getD i 0).testBit j = true → ∀ L, Closed ops L → (∀ o, ops[i]? = some o → ∀ k ∈ binders o, L k = true) → L j = true

theorem masksAux_ok {ops : Array Oper} : ∀ {l pre : List Oper} {ms : List Nat}, ops.toList = pre ++ l → ms.length = pre.length → MsOK ops ms → MsOK ops (masksAux l ms)
  | [], pre, ms, h, hl, hm => hm
  | o :: r, pre, ms, h, hl, hm => by
    simp only [masksAux]
    refine masksAux_ok (pre := pre ++ [o]) (by simp [h]) (by simp [hl]) fun i j hb L hL hk => ?_
    by_cases hi : i < ms.length
    · rw [List.getD_eq_getElem?_getD, List.getElem?_append_left hi, ← List.getD_eq_getElem?_getD] at hb
      exact hm i j hb L hL hk
    · by_cases he : i = ms.length
      · subst he
        rw [List.getD_eq_getElem?_getD, List.getElem?_append_right (Nat.le_refl _)] at hb
        simp only [Nat.sub_self, List.getElem?_cons_zero, Option.getD_some] at hb
        have ho : ops[ms.length]? = some o := by
          rw [← Array.getElem?_toList, h, List.getElem?_append_right (by omega), hl]; simp
        obtain ⟨k, k1, k2⟩ := bits_spec hb
        have hLk := hk o ho k k1
        rcases k2 with rfl | k2
        · exact hLk
        · exact hm k j k2 L hL fun o' ho' k' hk' => hL k o' ho' hLk k' hk'
      · rw [List.getD_eq_getElem?_getD, List.getElem?_eq_none (by simp; omega)] at hb
        simp at hb

theorem masks_ok (ops : Array Oper) : MsOK ops (masks ops) := masksAux_ok (pre := []) (by simp) rfl fun i j h => by simp at h

end Go.Proofs.YthpkehhghcpolaaDoor
