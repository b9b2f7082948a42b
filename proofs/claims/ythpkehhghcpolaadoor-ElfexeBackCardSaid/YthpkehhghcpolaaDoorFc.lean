/-
  The ground of the walks of this seat, part Fc.
-/
import Derived.Test.YthpkehhghcpolaaDoorFb
namespace Go.Proofs.YthpkehhghcpolaaDoor
open Go.RowKit
set_option linter.unusedVariables false
set_option linter.unusedSimpArgs false

/-- What an operation does to the walk's own memory. -/
inductive HC where
  | no | push (b : Blk) | set (b : Nat) (blk : Blk)

def HC.on (H : AH) : HC → AH
  | .no => H
  | .push b => H ++ [b]
  | .set b blk => H.set b blk

noncomputable def NOpt {α R : Type} (o : Option α) (K : α → Option R) : Option R := @Option.rec α (fun _ => Option R) none K o
noncomputable def NCk {R : Type} (c : Bool) (p : Option R) : Option R := @Bool.rec (fun _ => Option R) none p c
/-! ### Lists, views: as the kernel likes them -/

section
variable {R : Type}
end

/-- The bytes that a row's elements are. -/
def bytesOf : List T → Option (List UInt8)
  | [] => some []
  | .int .u8 n :: r => match decide (0 ≤ n) && decide (n < 256), bytesOf r with | true, some l => some (UInt8.ofNat n.toNat :: l) | _, _ => none
  | _ => none

section
variable {R : Type}

noncomputable def nisNil (get : Nat → Option Blk) : AV → Option Bool
  | .t .nilp => some true
  | .t .nils => some true
  | .t .nilf => some true
  | .t .nili => some true
  | .t (.iptr _) => some false
  | .t (.vec _ _) => some false
  | .t (.fn _ _ _) => some false
  | .t (.ifc _ _) => some false
  | .fn _ _ _ => some false
  | .ifc _ _ => some false
  | .emp => some false
  | .ptr b g _ _ =>
    match get b with
    | some (.box _) => some false
    | some (.arr _ _ _ gen _) => match Nat.beq g gen with | true => some false | false => none
    | _ => none
  | .sl b g _ _ =>
    match get b with
    | some (.arr _ _ z gen l) => match Nat.beq g gen with | true => some (z && Nat.beq l.length 0) | false => none
    | _ => none
  | _ => none

noncomputable def neq (tab : Tab) (eqs : TypeId → Bool) (ty : TypeId) (get : Nat → Option Blk) (x y : AV) (yc : Bool) (K : Bool → Option R) : Option R :=
  NOpt (tab ty) fun i =>
  match x, y with
  | .t (.bool a), .t (.bool b) => NCk (match i.d with | .bool => true | _ => false) (K (a == b))
  | .t (.agg a), .t (.agg b) =>
    match i.d with
    | .struct fs => NCk (eqs ty) (NOpt (eqFs tab a b fs.toList) K)
    | _ => none
  | x, y => NCk (nilTy i.d && nilFits i.d y && kindFits i.d x && (yc || !isIfaceD i.d)) (NOpt (nisNil get x) K)

abbrev gt (H : AH) : Nat → Option Blk := fun b => H[b]?

end

end Go.Proofs.YthpkehhghcpolaaDoor

namespace Go.Proofs.YthpkehhghcpolaaDoor
open Go.RowKit
set_option linter.unusedVariables false
set_option linter.unusedSimpArgs false

/-! ### Memory, as a tree -/

inductive Tr where
  | leaf | node (x : Option Blk) (l r : Tr)

noncomputable def Tr.get (t : Tr) : Nat → Option Blk :=
  @Tr.rec (fun _ => Nat → Option Blk) (fun _ => none)
    (fun x _ _ gl gr b => @Nat.rec (fun _ => Option Blk) x (fun k _ => @Bool.rec (fun _ => Option Blk) (gr (Nat.div k 2)) (gl (Nat.div k 2)) (Nat.beq (Nat.mod k 2) 0)) b) t

section
variable {R : Type}

/-! ### Reckoned at once -/

end

/-! ### States -/

/-- The walk's own memory: the blocks, how many, and the least that was written since it was last looked. -/
structure NH where
  hp : Tr
  len : Nat
  lo : Nat

structure NS where
  env : List (Nat × AV)
  h : NH

noncomputable def nlk (env : List (Nat × AV)) (k : Nat) : AV := @List.rec (Nat × AV) (fun _ => AV) .junk (fun p _ go => @Prod.rec Nat AV (fun _ => AV) (fun a v => @Bool.rec (fun _ => AV) go v (Nat.beq a k)) p) env
def nput (d : Option Tmp) (v : AV) (env : List (Nat × AV)) : List (Nat × AV) :=
  match d with
  | some d => (d, v) :: env
  | none => env

/-- The tree holds that memory. -/
structure HA (h : NH) (H : AH) : Prop where
  len : H.length = h.len
  get : h.hp.get = gt H

/-- The blocks below 'lo' are as they were. -/
structure Stay (lo : Nat) (H H' : AH) : Prop where
  len : H.length ≤ H'.length
  at_ : ∀ b, b < lo → b < H.length → H'[b]? = H[b]?

theorem Stay.refl (lo : Nat) (H : AH) : Stay lo H H := ⟨Nat.le_refl _, fun _ _ _ => rfl⟩
theorem Stay.trans {lo lo' : Nat} {H H' H'' : AH} (h : Stay lo H H') (k : Stay lo' H' H'') (hl : lo' ≤ lo) : Stay lo' H H'' :=
  ⟨Nat.le_trans h.len k.len, fun b h1 h2 => (k.at_ b h1 (Nat.lt_of_lt_of_le h2 h.len)).trans (h.at_ b (Nat.lt_of_lt_of_le h1 hl) h2)⟩
theorem Stay.le {lo lo' : Nat} {H H' : AH} (h : Stay lo H H') (hl : lo' ≤ lo) : Stay lo' H H' := ⟨h.len, fun b h1 h2 => h.at_ b (Nat.lt_of_lt_of_le h1 hl) h2⟩

/-! ### Operations -/

abbrev CallN := FuncId → List AV → NH → Option (AV × NH)

/-- What a step says: of the state behind it, and of the walk. -/
structure Step (h : NH) (H : AH) (d : Option Tmp) (env : List (Nat × AV)) (s' : NS) (X : (AV → AH → Prop) → Prop) (v : AV) (H' : AH) : Prop where
  env : s'.env = nput d v env
  ha : HA s'.h H'
  stay : Stay s'.h.lo H H'
  lo : s'.h.lo ≤ h.lo
  x : ∀ K, K v H' → X K

section
variable {P : Program} {tab : Tab} {eqs : TypeId → Bool} {call : CallN}

end
end Go.Proofs.YthpkehhghcpolaaDoor

namespace Go.Proofs.YthpkehhghcpolaaDoor
open Go.RowKit
set_option linter.unusedVariables false
set_option linter.unusedSimpArgs false

theorem Sat.hide {O : Org} {c : Cx} {env : List (Nat × AV)} {a : Act} {w : World} : ∀ {D : List Nat} {H : AH}, Sat O c ⟨env, H⟩ a w → Sat O c ⟨env, Go.Proofs.YthpkehhghcpolaaDoor.hide D H⟩ a w
  | [], H, h => h
  | b :: r, H, h => by
    obtain ⟨ev, hs⟩ := kill h.hs b
    exact Sat.hide (D := r) (h.go ev hs (Below.refl _ _))

theorem Sat.agree {O : Org} {c : Cx} {env env' : List (Nat × AV)} {H : AH} {a : Act} {w : World} (h : Agree env env') (hs : Sat O c ⟨env, H⟩ a w) : Sat O c ⟨env', H⟩ a w := by
  refine ⟨fun t => ?_, hs.hs, hs.size, hs.defers, hs.ev, hs.below⟩
  rcases agree_lk h t with e | e
  · rw [e]; exact .junk _
  · rw [e]; exact hs.env t

end Go.Proofs.YthpkehhghcpolaaDoor

namespace Go.Proofs.YthpkehhghcpolaaDoor
open Go.RowKit
set_option linter.unusedVariables false
set_option linter.unusedSimpArgs false

/-! ### Regions -/

/-- Items of a region's walk: an operation (does it need all that came before?), or two stores in either order. -/
inductive NIt where
  | op (i : Nat) (fl : Bool)
  | race (j i : Nat)

/-- What came before and may not be there yet. -/
def unOf (ops : Array Oper) (ms : List Nat) (i : Nat) (done : List Nat) : List Nat := done.filter fun j => !((ms.getD i 0).testBit j || chainB ops j)

def toOrd (ops : Array Oper) (ms : List Nat) : List NIt → List Nat → Ord → Ord
  | [], _, T => T
  | .op i fl :: r, done, T => .op i (unOf ops ms i done) (toOrd ops ms r (i :: done) T)
  | .race j i :: r, done, T =>
    let rest := toOrd ops ms r (i :: j :: done) T
    .race (.op j (unOf ops ms j done) (.op i (unOf ops ms i done) rest)) (.op i (unOf ops ms i done) (.op j (unOf ops ms j done) rest))

section
variable {R : Type}

end

/-! ### Code -/

section
variable {P : Program} {tab : Tab} {eqs : TypeId → Bool} {call : CallN}

/-- What a piece of a region says. -/
structure Went (h : NH) (H : AH) (s' : NS) (X : (St → Prop) → Prop) (H' : AH) : Prop where
  ha : HA s'.h H'
  stay : Stay s'.h.lo H H'
  lo : s'.h.lo ≤ h.lo
  x : ∀ K : St → Prop, K ⟨s'.env, H'⟩ → X K

theorem LeX.stay {H H' : AH} {lo : Nat} (h : Stay lo H H') (hl : H.length ≤ lo) : LeX [] H H' := fun b blk hb => by
  have hlt := lt_of_getElem? hb
  exact .inr ((h.at_ b (Nat.lt_of_lt_of_le hlt hl) hlt).trans hb)

theorem LeX.all {n : Nat} {H H' : AH} (h : H.length ≤ n) : LeX (List.range n) H H' := fun b blk hb => by
  rcases hide_back (List.range n) hb with e | ⟨hn, h1⟩
  · exact .inl e
  · exact (hn (List.mem_range.2 (Nat.lt_of_lt_of_le (lt_of_getElem? h1) h))).elim

/-- What a piece of a region's walk says. -/
structure WentO (P : Program) (tab : Tab) (ops : Array Oper) (ms : List Nat) (D : Nat → List Nat) (l : List NIt) (done : List Nat) (s : NS) (H : AH) (s' : NS) (H' : AH) : Prop where
  ha : HA s'.h H'
  stay : Stay s'.h.lo H H'
  lo : s'.h.lo ≤ s.h.lo
  x : ∀ (T : Ord) (K : St → Prop), xdr tab (CallS P) ops D T ⟨s'.env, H'⟩ K → xdr tab (CallS P) ops D (toOrd ops ms l done T) ⟨s.env, H⟩ K

/-! ### Code -/

theorem Sat.lk {O c env env' H a w} (h : Sat O c ⟨env, H⟩ a w) (he : ∀ t, Go.Proofs.YthpkehhghcpolaaDoor.lk env' t = Go.Proofs.YthpkehhghcpolaaDoor.lk env t) : Sat O c ⟨env', H⟩ a w :=
  ⟨fun t => by rw [he]; exact h.env t, h.hs, h.size, h.defers, h.ev, h.below⟩

/-- What a piece of code says. -/
structure Did (P : Program) (x : Code) (h : NH) (env : List (Nat × AV)) (H : AH) (e : Ex) (s' : NS) (H' : AH) : Prop where
  ha : HA s'.h H'
  stay : Stay s'.h.lo H H'
  lo : s'.h.lo ≤ h.lo
  wp : ∀ {O : Org} {c : Cx} {a : Act} {w : World} {R : Exit → Act → World → Prop}, slotsOK O.N x = true → Sat O c ⟨env, H⟩ a w → (∀ c' a' w', Sat O c' ⟨s'.env, H'⟩ a' w' → R e.out a' w') → x.wp P R a w

/-- The same of a loop's rounds. -/
structure DidL (P : Program) (x : Code) (h : NH) (env : List (Nat × AV)) (H : AH) (e : Ex) (s' : NS) (H' : AH) : Prop where
  ha : HA s'.h H'
  stay : Stay s'.h.lo H H'
  lo : s'.h.lo ≤ h.lo
  wp : ∀ {O : Org} {c : Cx} {a : Act} {w : World} {R : Exit → Act → World → Prop}, slotsOK O.N x = true → Sat O c ⟨env, H⟩ a w → (∀ c' a' w', Sat O c' ⟨s'.env, H'⟩ a' w' → R e.out a' w') → LoopWP P x R a w

end
end Go.Proofs.YthpkehhghcpolaaDoor

namespace Go.Proofs.YthpkehhghcpolaaDoor
open Go.RowKit
set_option linter.unusedVariables false
set_option linter.unusedSimpArgs false

section
variable {R : Type}

/-! ### Views of values -/

/-! ### Integers -/

theorem natbeq (m n : Nat) : Nat.beq m n = decide (m = n) := by
  by_cases h : m = n
  · subst h; simp
  · rw [decide_eq_false h]
    cases hb : Nat.beq m n with
    | false => rfl
    | true => exact (h (Nat.eq_of_beq_eq_true hb)).elim

/-! ### Strings, lists -/

end
end Go.Proofs.YthpkehhghcpolaaDoor

namespace Go.Proofs.YthpkehhghcpolaaDoor
open Go.RowKit
set_option linter.unusedVariables false
set_option linter.unusedSimpArgs false

section
variable {R : Type}

/-! ### Reading -/

noncomputable def qev (st : List AV) (env : List (Nat × AV)) : Operand → AV
  | .tmp t => nlk env t
  | .const v => ofVal v
  | .global g => st.getD g .junk
  | .func f => .t (.fn (.func f) [] [])

/-! ### Memory -/

/-! ### Whatever operation -/

end

section
variable {R : Type} {P : Program} {tab : Tab} {eqs : TypeId → Bool} {call : CallN}

end
end Go.Proofs.YthpkehhghcpolaaDoor

namespace Go.Proofs.YthpkehhghcpolaaDoor
open Go.RowKit
set_option linter.unusedVariables false
set_option linter.unusedSimpArgs false

/-! ### Operands, put otherwise -/

section
variable {R : Type} {tab : Tab} {eqs : TypeId → Bool} {call : CallN}

/-! ### The frequent ones -/

inductive QO where
  | gen (op : Op) (ty : TypeId)
  | mv (x : Operand)
  | bin (op : BinOp) (t : TypeId) (x y : Operand) (u : TypeId)
  | pick (c a b : Operand)
  | load (t : TypeId) (a : Operand)
  | field (t : TypeId) (x : Operand) (k : Nat)
  | extract (x : Operand) (i : Nat)
  | index (t : TypeId) (x i : Operand)
  | fieldAddr (t : TypeId) (x : Operand) (k : Nat)
  | indexAddr (t : TypeId) (x i : Operand)
  | callF (f : FuncId) (args : List Operand)

def QO.of (ty : TypeId) : Op → QO
  | .move x => .mv x
  | .binOp op t x y u => .bin op t x y u
  | .pick c a b => .pick c a b
  | .load t a => .load t a
  | .field t x k => .field t x k
  | .extract x i => .extract x i
  | .index t x i => .index t x i
  | .fieldAddr t x k => .fieldAddr t x k
  | .indexAddr t x i => .indexAddr t x i
  | .call c => (match c.callee with | .value (.func f) => .callF f c.args.toList | _ => .gen (.call c) ty)
  | o => .gen o ty

end
end Go.Proofs.YthpkehhghcpolaaDoor
