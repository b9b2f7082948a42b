/-
  What one operation, one piece of code does to a state of a walk, as a proposition that Lean reckons by itself. Nothing is proved here.
-/
import Derived.Test.YthpkehhghcpolaaDoorBase
namespace Go.Proofs.YthpkehhghcpolaaDoor
set_option linter.unusedVariables false

/-! ### Types, as the walk looks at them -/

def ofV1 : Value → Option T
  | .bool b => some (.bool b)
  | .int k n => some (.int k n)
  | .string s => some (.str s.data.toList)
  | .pointer none => some .nilp
  | .slice none 0 0 => some .nils
  | .nilFunc => some .nilf
  | .nilIface => some .nili
  | _ => none

def ofVs : List Value → Option (List T)
  | [] => some []
  | v :: r => match ofV1 v, ofVs r with | some x, some l => some (x :: l) | _, _ => none

def ofV : Value → Option T
  | .agg cs => (ofVs cs.toList).map .agg
  | v => ofV1 v

structure TyI where
  d : TypeDesc
  size : Nat
  bytes : Nat
  zero : Option (List T)
  eqOK : Prop

abbrev Tab := TypeId → Option TyI

def mkTab (P : Program) : Tab := fun t =>
  match P.info? t, P.underlying t with
  | some i, some d => some { d, size := i.size, bytes := i.bytes, zero := i.zero.bind fun z => ofVs z.cells.toList, eqOK := P.stoodInHeld t = false ∧ P.eqGuardType P.depth t = false }
  | _, _ => none

structure TyI.fits (P : Program) (t : TypeId) (y : TyI) : Prop where
  d : P.underlying t = some y.d
  info : ∃ i, P.info? t = some i ∧ i.size = y.size ∧ i.bytes = y.bytes ∧ ∀ l, y.zero = some l → ∃ z, i.zero = some z ∧ ofVs z.cells.toList = some l
  eq : y.eqOK → P.stoodInHeld t = false ∧ P.eqGuardType P.depth t = false

def TabOK (P : Program) (tab : Tab) : Prop := ∀ t y, tab t = some y → y.fits P t

theorem mkTab_ok (P : Program) : TabOK P (mkTab P) := by
  intro t y h
  unfold mkTab at h
  split at h
  · rename_i i d hi hd
    cases h
    refine ⟨hd, ⟨i, hi, rfl, rfl, fun l hl => ?_⟩, fun h => h⟩
    cases hz : i.zero with
    | none => simp [hz] at hl
    | some z => exact ⟨z, rfl, by simpa [hz] using hl⟩
  · cases h

def TyI.isAgg (y : TyI) : Bool :=
  match y.d with
  | .struct _ => true
  | .array _ _ => true
  | _ => false

/-! ### The pieces of which a walk's goal is made -/

/-- Two ways. -/
abbrev Br (c : Bool) (p q : Prop) : Prop := @Bool.rec (fun _ => Prop) q p c
/-- It must hold. -/
abbrev Ck (c : Bool) (p : Prop) : Prop := @Bool.rec (fun _ => Prop) False p c
/-- It must be there. -/
abbrev Opt {α : Type} (o : Option α) (K : α → Prop) : Prop := @Option.rec α (fun _ => Prop) False K o

theorem br_intro {c : Bool} {p q : Prop} (h : c = true → p) (k : c = false → q) : Br c p q := by
  cases c
  · exact k rfl
  · exact h rfl

theorem ck_intro {c : Bool} {p : Prop} (h : c = true) (k : p) : Ck c p := by subst h; exact k

theorem opt_intro {α : Type} {o : Option α} {K : α → Prop} {a : α} (h : o = some a) (k : K a) : Opt o K := by subst h; exact k

theorem br_ex {c : Bool} {α : Type} {p q : (α → Prop) → Prop} (hp : ∀ K, p K → ∃ a, p (· = a) ∧ K a) (hq : ∀ K, q K → ∃ a, q (· = a) ∧ K a)
    {K : α → Prop} (h : Br c (p K) (q K)) : ∃ a, Br c (p (· = a)) (q (· = a)) ∧ K a := by
  cases c
  · exact hq K h
  · exact hp K h

theorem ck_ex {c : Bool} {α : Type} {p : (α → Prop) → Prop} (hp : ∀ K, p K → ∃ a, p (· = a) ∧ K a) {K : α → Prop} (h : Ck c (p K)) : ∃ a, Ck c (p (· = a)) ∧ K a := by
  cases c
  · exact h.elim
  · exact hp K h

theorem ck_iff {c : Bool} {p : Prop} : Ck c p ↔ c = true ∧ p := by cases c <;> simp

theorem opt_iff {α : Type} {o : Option α} {K : α → Prop} : Opt o K ↔ ∃ a, o = some a ∧ K a := by cases o <;> simp

theorem br_iff {c : Bool} {p q : Prop} : Br c p q ↔ (c = true ∧ p) ∨ (c = false ∧ q) := by cases c <;> simp

/-! ### States -/

def lk : List (Nat × AV) → Nat → AV
  | [], _ => .junk
  | (a, v) :: r, k => match Nat.beq a k with | true => v | false => lk r k

structure St where
  env : List (Nat × AV)
  H : AH

def ofVal (v : Value) : AV :=
  match ofV v with
  | some x => .t x
  | none => .junk

def opd (env : List (Nat × AV)) : Operand → AV
  | .tmp t => lk env t
  | .const v => ofVal v
  | .global _ => .junk
  | .func f => .t (.fn (.func f) [] [])

def isConst : Operand → Bool
  | .const _ => true
  | _ => false

def St.put (s : St) (d : Option Tmp) (v : AV) (H : AH) : St :=
  match d with
  | some d => ⟨(d, v) :: s.env, H⟩
  | none => ⟨s.env, H⟩

/-! ### Reckoned at once, not later -/

def selL : List Nat → Nat → (Nat → Prop) → Prop
  | [], n, K => K n
  | k :: r, n, K => match Nat.beq n k with | true => K k | false => selL r n K

def foN (n : Nat) (K : Nat → Prop) : Prop := selL [0, 1, 2, 3, 4, 5, 6, 7, 8, 9, 10, 11, 12, 13, 14, 15, 16, 17, 18, 19, 20, 21, 22, 23, 24, 25, 26, 27, 28, 29, 30, 31, 32] n K

def foK (k : IntKind) (K : IntKind → Prop) : Prop :=
  match k with
  | .i8 => K .i8 | .i16 => K .i16 | .i32 => K .i32 | .i64 => K .i64 | .u8 => K .u8 | .u16 => K .u16 | .u32 => K .u32 | .u64 => K .u64

def foT (x : T) (K : T → Prop) : Prop :=
  match x with
  | .bool b => K (.bool b)
  | .int k n => foK k fun k => K (.int k n)
  | .str s => K (.str s)
  | .nilp => K .nilp | .nils => K .nils | .nilf => K .nilf | .nili => K .nili
  | .iptr cs => K (.iptr cs)
  | .vec s l => K (.vec s l)
  | .agg cs => K (.agg cs)
  | .fn f a b => K (.fn f a b)
  | .ifc t v => K (.ifc t v)

/-- The head of a value of the walk. -/
def foA (x : AV) (K : AV → Prop) : Prop :=
  match x with
  | .t x => foT x fun x => K (.t x)
  | .ptr b g i o => foN b fun b => foN g fun g => foN o fun o => K (.ptr b g i o)
  | .sl b g i n => foN b fun b => foN g fun g => K (.sl b g i n)
  | .agg cs => K (.agg cs)
  | .tup vs => K (.tup vs)
  | .fn f a b => K (.fn f a b)
  | .ifc t v => K (.ifc t v)
  | .own e s z l => K (.own e s z l)
  | .emp => K .emp
  | .junk => K .junk

def foL : List AV → (List AV → Prop) → Prop
  | [], K => K []
  | x :: r, K => foA x fun x => foL r fun r => K (x :: r)

def foV (x : AV) (K : AV → Prop) : Prop :=
  match x with
  | .agg cs => foL cs fun cs => K (.agg cs)
  | .tup cs => foL cs fun cs => K (.tup cs)
  | .fn f a b => foL a fun a => foL b fun b => K (.fn f a b)
  | x => foA x K

def foB (b : Blk) (K : Blk → Prop) : Prop :=
  match b with
  | .dead => K .dead
  | .box cells => foL cells fun cells => K (.box cells)
  | .arr e s z g l => foN s fun s => foN g fun g => (match z with | true => K (.arr e s true g l) | false => K (.arr e s false g l))
  | .iter s p => foN p fun p => K (.iter s p)

def foH : AH → (AH → Prop) → Prop
  | [], K => K []
  | b :: r, K => foB b fun b => foH r fun r => K (b :: r)

def stp (s : St) (d : Option Tmp) (v : AV) (H : AH) (K : St → Prop) : Prop :=
  foV v fun v => foH H fun H =>
  match s, d with
  | ⟨env, _⟩, some d => K ⟨(d, v) :: env, H⟩
  | ⟨env, _⟩, none => K ⟨env, H⟩

theorem selL_eq (n : Nat) (K : Nat → Prop) : ∀ l : List Nat, selL l n K = K n
  | [] => rfl
  | k :: r => by
    simp only [selL]
    cases h : Nat.beq n k with
    | true => rw [Nat.eq_of_beq_eq_true h]
    | false => exact selL_eq n K r

theorem foN_eq (n : Nat) (K : Nat → Prop) : foN n K = K n := selL_eq n K _
theorem foK_eq (k : IntKind) (K : IntKind → Prop) : foK k K = K k := by cases k <;> rfl
theorem foT_eq (x : T) (K : T → Prop) : foT x K = K x := by cases x <;> simp only [foT, foK_eq]
theorem foA_eq (x : AV) (K : AV → Prop) : foA x K = K x := by
  cases x <;> simp only [foA, foT_eq, foN_eq]
theorem foL_eq : ∀ (l : List AV) (K : List AV → Prop), foL l K = K l
  | [], K => rfl
  | x :: r, K => by simp only [foL, foA_eq, foL_eq r]
theorem foV_eq (x : AV) (K : AV → Prop) : foV x K = K x := by
  cases x <;> simp only [foV, foA_eq, foL_eq]
theorem foB_eq (b : Blk) (K : Blk → Prop) : foB b K = K b := by
  cases b with
  | dead => rfl
  | box cells => simp only [foB, foL_eq]
  | arr e s z g l => cases z <;> simp only [foB, foN_eq]
  | iter s p => simp only [foB, foN_eq]
theorem foH_eq : ∀ (l : AH) (K : AH → Prop), foH l K = K l
  | [], K => rfl
  | x :: r, K => by simp only [foH, foB_eq, foH_eq r]
theorem stp_eq (s : St) (d : Option Tmp) (v : AV) (H : AH) (K : St → Prop) : stp s d v H K = K (s.put d v H) := by
  cases d <;> simp only [stp, foV_eq, foH_eq, St.put]

def kix : IntKind → Nat
  | .i8 => 0 | .i16 => 1 | .i32 => 2 | .i64 => 3 | .u8 => 4 | .u16 => 5 | .u32 => 6 | .u64 => 7

def sameK (a b : IntKind) : Bool := Nat.beq (kix a) (kix b)

theorem sameK_eq {a b : IntKind} (h : sameK a b = true) : a = b := by cases a <;> cases b <;> first | rfl | (simp [sameK, kix] at h)

def bitsOp (op : BinOp) (k : IntKind) (a b : Int) : Int :=
  let x := BitVec.ofInt k.bits a
  let y := BitVec.ofInt k.bits b
  match op with
  | .and => k.wrap ((x &&& y).toNat : Int)
  | .or => k.wrap ((x ||| y).toNat : Int)
  | .xor => k.wrap ((x ^^^ y).toNat : Int)
  | _ => k.wrap ((x &&& ~~~y).toNat : Int)

/-- Two integers of one kind (shifts: of any two). -/
def xint (op : BinOp) (k : IntKind) (a : Int) (k' : IntKind) (b : Int) (K : T → Prop) : Prop :=
  match op with
  | .shl => Ck (decide (0 ≤ b)) (K (.int k (k.wrap (a * 2 ^ (min b.toNat k.bits)))))
  | .shr => Ck (decide (0 ≤ b)) (K (.int k (a.fdiv (2 ^ (min b.toNat k.bits)))))
  | .add => Ck (sameK k k') (K (.int k (k.wrap (a + b))))
  | .sub => Ck (sameK k k') (K (.int k (k.wrap (a - b))))
  | .mul => Ck (sameK k k') (K (.int k (k.wrap (a * b))))
  | .quo => Ck (sameK k k') (Ck (!decide (b = 0)) (K (.int k (k.wrap (a.tdiv b)))))
  | .rem => Ck (sameK k k') (Ck (!decide (b = 0)) (K (.int k (a.tmod b))))
  | .and => Ck (sameK k k') (K (.int k (bitsOp .and k a b)))
  | .or => Ck (sameK k k') (K (.int k (bitsOp .or k a b)))
  | .xor => Ck (sameK k k') (K (.int k (bitsOp .xor k a b)))
  | .andNot => Ck (sameK k k') (K (.int k (bitsOp .andNot k a b)))
  | .eql => Ck (sameK k k') (K (.bool (a == b)))
  | .neq => Ck (sameK k k') (K (.bool (a != b)))
  | .lss => Ck (sameK k k') (K (.bool (decide (a < b))))
  | .leq => Ck (sameK k k') (K (.bool (decide (a ≤ b))))
  | .gtr => Ck (sameK k k') (K (.bool (decide (a > b))))
  | .geq => Ck (sameK k k') (K (.bool (decide (a ≥ b))))

def xstr (op : BinOp) (a b : List UInt8) (K : T → Prop) : Prop :=
  match op with
  | .add => Ck (decide (a.length + b.length ≤ 9223372036854775807)) (K (.str (a ++ b)))
  | .eql => K (.bool (a == b))
  | .neq => K (.bool (!(a == b)))
  | .lss => K (.bool (Op.bytesLess a b))
  | .leq => K (.bool (Op.bytesLess a b || a == b))
  | .gtr => K (.bool (!(Op.bytesLess a b || a == b)))
  | .geq => K (.bool (!(Op.bytesLess a b)))
  | _ => False

/-- Equal, of one-cell data that isn't memory. -/
def eq1 : T → T → Option Bool
  | .bool a, .bool b => some (a == b)
  | .int k a, .int k' b => match sameK k k' with | true => some (a == b) | false => none
  | .str a, .str b => some (a == b)
  | _, _ => none

def tyIs1 : TypeDesc → T → Bool
  | .bool, .bool _ => true
  | .int _, .int _ _ => true
  | .string, .str _ => true
  | _, _ => false

/-- The cells of a struct, field by field, all of them plain. -/
def eqFs (tab : Tab) (xs ys : List T) : List Field → Option Bool
  | [] => some true
  | f :: r =>
    match tab f.type, xs[f.offset]?, ys[f.offset]? with
    | some y, some a, some b =>
      match tyIs1 y.d a && tyIs1 y.d b && !decide (f.name = "_"), eq1 a b, eqFs tab xs ys r with
      | true, some p, some q => some (p && q)
      | _, _, _ => none
    | _, _, _ => none

def toT1 : AV → Option T
  | .t x => some x
  | _ => none

def toTs : List AV → Option (List T)
  | [] => some []
  | v :: r => match toT1 v, toTs r with | some x, some l => some (x :: l) | _, _ => none

/-- A value of data alone. -/
def toT : AV → Option T
  | .t x => some x
  | .agg cs => (toTs cs).map .agg
  | .fn f a b => match toTs a, toTs b with | some x, some y => some (.fn f x y) | _, _ => none
  | .ifc t v => (toT1 v).map (.ifc t)
  | _ => none

/-- Is it nil? (Where that can be told.) -/
def isNil (H : AH) : AV → Option Bool
  | .t .nilp => some true
  | .t .nils => some true
  | .t .nilf => some true
  | .t .nili => some true
  | .t (.iptr _) => some false
  | .t (.vec _ _) => some false
  | .t (.fn _ _ _) => some false
  | .t (.ifc _ _) => some false
  | .fn _ _ _ => some false
  | .ifc _ _ => some false
  | .emp => some false
  | .ptr b g _ _ =>
    match H[b]? with
    | some (.box _) => some false
    | some (.arr _ _ _ gen _) => match Nat.beq g gen with | true => some false | false => none
    | _ => none
  | .sl b g _ _ =>
    match H[b]? with
    | some (.arr _ _ z gen l) => match Nat.beq g gen with | true => some (z && Nat.beq l.length 0) | false => none
    | _ => none
  | _ => none

def isNilT : AV → Bool
  | .t .nilp => true
  | .t .nils => true
  | .t .nilf => true
  | .t .nili => true
  | _ => false

def nilTy : TypeDesc → Bool
  | .slice _ => true
  | .pointer _ => true
  | .func _ _ _ => true
  | .interface _ => true
  | _ => false

/-- Is it the nil of that type? -/
def nilFits : TypeDesc → AV → Bool
  | .slice _, .t .nils => true
  | .pointer _, .t .nilp => true
  | .func _ _ _, .t .nilf => true
  | .interface _, .t .nili => true
  | _, _ => false

/-- May it stand where a value of that type stands? -/
def kindFits : TypeDesc → AV → Bool
  | .slice _, .t .nils => true
  | .slice _, .t (.vec _ _) => true
  | .slice _, .sl _ _ _ _ => true
  | .slice _, .emp => true
  | .pointer _, .t .nilp => true
  | .pointer _, .t (.iptr _) => true
  | .pointer _, .ptr _ _ _ _ => true
  | .func _ _ _, .t .nilf => true
  | .func _ _ _, .t (.fn _ _ _) => true
  | .func _ _ _, .fn _ _ _ => true
  | .interface _, .t .nili => true
  | .interface _, .t (.ifc _ _) => true
  | .interface _, .ifc _ _ => true
  | _, _ => false

def isIfaceD : TypeDesc → Bool
  | .interface _ => true
  | _ => false

/-- Equal? ('yc': the second is written as a constant.) -/
def xeq (tab : Tab) (ty : TypeId) (H : AH) (x y : AV) (yc : Bool) (K : Bool → Prop) : Prop :=
  Opt (tab ty) fun i =>
  match x, y with
  | .t (.bool a), .t (.bool b) => Ck (match i.d with | .bool => true | _ => false) (K (a == b))
  | .t (.agg a), .t (.agg b) =>
    match i.d with
    | .struct fs => i.eqOK ∧ Opt (eqFs tab a b fs.toList) K
    | _ => False
  | x, y => Ck (nilTy i.d && nilFits i.d y && kindFits i.d x && (yc || !isIfaceD i.d)) (Opt (isNil H x) K)

/-- All that is data in a struct's cells. -/
def toAgg : AV → AV
  | .agg cs => match toTs cs with | some l => .t (.agg l) | none => .agg cs
  | v => v

def xbin (tab : Tab) (op : BinOp) (ty : TypeId) (H : AH) (x y : AV) (yc : Bool) (K : T → Prop) : Prop :=
  match x, y with
  | .t (.int k a), .t (.int k' b) => xint op k a k' b K
  | .t (.str a), .t (.str b) => xstr op a b K
  | x, y =>
    match op with
    | .eql => xeq tab ty H (toAgg x) (toAgg y) yc fun b => K (.bool b)
    | .neq => xeq tab ty H (toAgg x) (toAgg y) yc fun b => K (.bool (!b))
    | _ => False

def xun (op : UnOp) (x : AV) (K : T → Prop) : Prop :=
  match op, x with
  | .neg, .t (.int k a) => K (.int k (k.wrap (0 - a)))
  | .xor, .t (.int k a) => K (.int k (bitsOp .xor k (if k.signed then -1 else k.max) a))
  | .not, .t (.bool b) => K (.bool (!b))
  | _, _ => False

/-! ### Memory -/

/-- The cells of a variable of so many cells, from cell o on. -/
def partA (y : TyI) (cells : List AV) (o : Nat) (K : AV → Prop) : Prop :=
  match y.isAgg with
  | true => Ck (Nat.ble (o + y.size) cells.length) (K (.agg ((cells.drop o).take y.size)))
  | false => Opt cells[o]? K

def partT (y : TyI) (cells : List T) (o : Nat) (K : T → Prop) : Prop :=
  match y.isAgg with
  | true => Ck (Nat.ble (o + y.size) cells.length) (K (.agg ((cells.drop o).take y.size)))
  | false => Opt cells[o]? K

def setAt {α : Type} (l : List α) (o : Nat) : List α → List α
  | [] => l
  | x :: r => setAt (l.set o x) (o + 1) r

def xload (tab : Tab) (ty : TypeId) (H : AH) (a : AV) (K : AV → Prop) : Prop :=
  Opt (tab ty) fun y =>
  match a with
  | .t (.iptr cells) => partT y cells 0 fun x => K (.t x)
  | .ptr b g i o =>
    match H[b]? with
    | some (.box cells) => partA y cells o K
    | some (.arr _ _ _ gen (.ts l)) => Ck (Nat.beq g gen) (Opt l[i]? fun e => partT y e.cells o fun x => K (.t x))
    | some (.arr _ _ _ gen (.vs l)) => Ck (Nat.beq g gen) (Opt l[i]? fun e => partA y e.cells o K)
    | _ => False
  | _ => False

/-- A datum whose cells from o on are others. -/
def setCells (e : T) (o : Nat) (cs : List T) : T :=
  match e with
  | .agg l => .agg (setAt l o cs)
  | _ => match cs with | [c] => c | _ => e

def setCellsA (e : AV) (o : Nat) (cs : List AV) : AV :=
  match e with
  | .agg l => .agg (setAt l o cs)
  | .t (.agg l) => .agg (setAt (l.map .t) o cs)
  | _ => match cs with | [c] => c | _ => e

def xstore (tab : Tab) (ty : TypeId) (H : AH) (a v : AV) (K : AH → Prop) : Prop :=
  Opt (tab ty) fun y =>
  match a with
  | .ptr b g i o =>
    match H[b]? with
    | some (.box cells) => Ck (Nat.beq v.cells.length y.size && Nat.ble (o + y.size) cells.length && v.cells.all AV.one) (K (H.set b (.box (setAt cells o v.cells))))
    | some (.arr e s z gen (.ts l)) =>
      Ck (Nat.beq g gen) (Opt l[i]? fun x =>
        match toTs v.cells with
        | some cs => Ck (Nat.beq cs.length y.size && Nat.ble (o + y.size) x.cells.length && cs.all T.one) (K (H.set b (.arr e s z gen (.ts (l.set i (setCells x o cs))))))
        | none => Ck (Nat.beq v.cells.length y.size && Nat.ble (o + y.size) x.cells.length && v.cells.all AV.one) (K (H.set b (.arr e s z gen (.vs ((l.map .t).set i (setCellsA (.t x) o v.cells)))))))
    | some (.arr e s z gen (.vs l)) =>
      Ck (Nat.beq g gen) (Opt l[i]? fun x =>
        Ck (Nat.beq v.cells.length y.size && Nat.ble (o + y.size) x.cells.length && v.cells.all AV.one) (K (H.set b (.arr e s z gen (.vs (l.set i (setCellsA x o v.cells)))))))
    | _ => False
  | _ => False

def fieldOf (y : TyI) (k : Nat) : Option Field :=
  match y.d with
  | .struct fs => fs[k]?
  | _ => none

def xfieldAddr (tab : Tab) (ty : TypeId) (H : AH) (a : AV) (k : Nat) (K : AV → Prop) : Prop :=
  Opt (tab ty) fun y => Opt (fieldOf y k) fun f => Opt (tab f.type) fun z => Ck (Nat.ble 1 z.size)
  (match a with
    | .t (.iptr cells) => K (.t (.iptr (cells.drop f.offset)))
    | .ptr b g i o =>
      (match H[b]? with
        | some (.box _) => K (.ptr b g i (o + f.offset))
        | some (.arr _ _ _ gen _) => Ck (Nat.beq g gen) (K (.ptr b g i (o + f.offset)))
        | _ => False)
    | _ => False)

def xfield (tab : Tab) (ty : TypeId) (a : AV) (k : Nat) (K : AV → Prop) : Prop :=
  Opt (tab ty) fun y => Opt (fieldOf y k) fun f => Opt (tab f.type) fun z =>
  match a with
  | .t (.agg cs) => partT z cs f.offset fun x => K (.t x)
  | .agg cs => partA z cs f.offset K
  | _ => False

def inB (i : Int) (n : Nat) : Bool := decide (0 ≤ i) && decide (i < (n : Int))

def xindexAddr (tab : Tab) (ty : TypeId) (H : AH) (a : AV) (ix : AV) (K : AV → Prop) : Prop :=
  Opt (tab ty) fun y =>
  match ix with
  | .t (.int _ i) =>
    match y.d, a with
    | .slice e, .t (.vec s l) => Opt (tab e) fun z => Ck (Nat.beq s z.size && decide (0 ≤ i)) (Opt l[i.toNat]? fun x => K (.t (.iptr x.cells)))
    | .slice e, .sl b g j len => Opt (tab e) fun z =>
      (match H[b]? with
        | some (.arr _ s _ gen _) => Ck (Nat.beq g gen && Nat.beq s z.size && inB i len) (K (.ptr b g (j + i.toNat) 0))
        | _ => False)
    | .array n e, .ptr b g j o => Opt (tab e) fun z => Ck (inB i n)
      (match H[b]? with
        | some (.box _) => K (.ptr b g j (o + i.toNat * z.size))
        | some (.arr _ _ _ gen _) => Ck (Nat.beq g gen) (K (.ptr b g j (o + i.toNat * z.size)))
        | _ => False)
    | .array n e, .t (.iptr cells) => Opt (tab e) fun z => Ck (inB i n) (K (.t (.iptr (cells.drop (i.toNat * z.size)))))
    | _, _ => False
  | _ => False

def xindex (tab : Tab) (ty : TypeId) (a : AV) (ix : AV) (K : AV → Prop) : Prop :=
  Opt (tab ty) fun y =>
  match ix with
  | .t (.int _ i) =>
    match y.d, a with
    | .string, .t (.str s) => Ck (decide (0 ≤ i)) (Opt s[i.toNat]? fun c => K (.t (.int .u8 c.toNat)))
    | .array n e, .t (.agg cs) => Opt (tab e) fun z => Ck (inB i n) (partT z cs (i.toNat * z.size) fun x => K (.t x))
    | .array n e, .agg cs => Opt (tab e) fun z => Ck (inB i n) (partA z cs (i.toNat * z.size) K)
    | _, _ => False
  | _ => False

/-- A bound of a slice expression. -/
def xbound (v : Option AV) (dflt : Nat) (most : Nat) (K : Nat → Prop) : Prop :=
  match v with
  | none => K dflt
  | some (.t (.int _ n)) => Ck (decide (0 ≤ n) && decide (n ≤ (most : Int))) (K n.toNat)
  | _ => False

/-- How far a slice can be told anew. -/
def room (gen s i n len : Nat) : Nat := match Nat.beq (gen % 2) 1 && Nat.ble 1 s with | true => len - i | false => n

def xslice (tab : Tab) (ty : TypeId) (H : AH) (a : AV) (lo hi mx : Option AV) (K : AV → Prop) : Prop :=
  Opt (tab ty) fun y =>
  match mx with
  | some m =>
    match y.d, lo, hi, m with
    | .slice e, some (.t (.int _ 0)), some (.t (.int _ 0)), .t (.int _ 0) => Opt (tab e) fun _ =>
      (match a with
      | .t .nils => K (.t .nils)
      | .t (.vec _ _) => K .emp
      | .emp => K .emp
      | .sl b g _ _ =>
        (match H[b]? with
          | some (.arr _ _ z gen l) => Ck (Nat.beq g gen) (Br (z && Nat.beq l.length 0) (K (.t .nils)) (K .emp))
          | _ => False)
      | _ => False)
    | _, _, _, _ => False
  | none =>
    match y.d, a with
    | .string, .t (.str s) => xbound hi s.length s.length fun h => xbound lo 0 h fun l => K (.t (.str ((s.drop l).take (h - l))))
    | .slice e, .t (.vec s l) => Opt (tab e) fun z => Ck (Nat.beq s z.size) (xbound hi l.length l.length fun h => xbound lo 0 h fun o => K (.t (.vec s ((l.drop o).take (h - o)))))
    | .slice e, .t .nils => Opt (tab e) fun _ => xbound hi 0 0 fun h => xbound lo 0 h fun _ => K (.t .nils)
    | .slice e, .sl b g i n => Opt (tab e) fun z =>
      (match H[b]? with
        | some (.arr _ s _ gen l) => Ck (Nat.beq g gen && Nat.beq s z.size) (xbound hi n (room gen s i n l.length) fun h => xbound lo 0 h fun o => K (.sl b g (i + o) (h - o)))
        | _ => False)
    | _, _ => False

/-- A struct's or an array's cells, filled part by part. -/
def xfill (place : Nat → Option (Nat × Nat)) (cells : List AV) : List (Nat × AV) → (AV → Prop) → Prop
  | [], K => K (.agg cells)
  | (k, v) :: r, K => Opt (place k) fun p =>
    Ck (Nat.beq v.cells.length p.2 && Nat.ble (p.1 + v.cells.length) cells.length && v.cells.all AV.one) (xfill place (setAt cells p.1 v.cells) r K)

def xbuild (tab : Tab) (ty : TypeId) (parts : List (Nat × AV)) (K : AV → Prop) : Prop :=
  Opt (tab ty) fun y => Opt y.zero fun zs => Ck (zs.all T.one)
  (match y.d with
  | .struct fs => Ck (fs.toList.all fun f => (tab f.type).isSome) (xfill (fun k => fs[k]?.bind fun f => (tab f.type).map fun z => (f.offset, z.size)) (zs.map .t) parts K)
  | .array _ e => Opt (tab e) fun z => xfill (fun k => some (k * z.size, z.size)) (zs.map .t) parts K
  | _ => False)

/-- An element of a literal. -/
def mkElem (s : Nat) (cs : List T) : T :=
  match s, cs with
  | 1, [c] => c
  | _, _ => .agg cs

def mkElemA (s : Nat) (cs : List AV) : AV :=
  match s, cs with
  | 1, [c] => c
  | _, _ => match toTs cs with | some l => .t (.agg l) | none => .agg cs

/-- The elements of a slice literal, all of them given, in order. -/
def elems (s : Nat) (n : Nat) : List (Nat × AV) → Option (List AV)
  | [] => some []
  | (k, v) :: r =>
    match Nat.beq k n && Nat.beq v.cells.length s && v.cells.all AV.one, elems s (n + 1) r with
    | true, some l => some (mkElemA s v.cells :: l)
    | _, _ => none

def seqOf (l : List AV) : Sq :=
  match toTs l with
  | some l => .ts l
  | none => .vs l

def xbuildSlice (tab : Tab) (ty : TypeId) (len : Nat) (parts : List (Nat × AV)) (H : AH) (K : AV → AH → Prop) : Prop :=
  Opt (tab ty) fun y =>
  match y.d with
  | .slice e => Opt (tab e) fun z => Opt (elems z.size 0 parts) fun l =>
    Ck (Nat.beq l.length len && Nat.ble 1 z.size && Nat.ble (len * z.size) 16777216 && z.zero.isSome) (K (.sl H.length 0 0 len) (H ++ [.arr e z.size false 0 (seqOf l)]))
  | _ => False

def xconvert (tab : Tab) (src dst : TypeId) (x : AV) (H : AH) (K : AV → Prop) : Prop :=
  Opt (tab dst) fun y => Opt (tab src) fun w =>
  match y.d, x with
  | .int k, .t (.int _ n) => K (.t (.int k (k.wrap n)))
  | .string, .t (.str s) => K (.t (.str s))
  | .string, .t .nils => (match w.d with | .slice e => Opt (tab e) fun z => (match z.d with | .int .u8 => K (.t (.str [])) | _ => False) | _ => False)
  | .string, .t (.vec s l) => (match w.d with
      | .slice e => Opt (tab e) fun z => (match z.d with | .int .u8 => Ck (Nat.beq s 1) (∃ bs : List UInt8, l = bs.map (fun b => T.int .u8 (b.toNat : Int)) ∧ K (.t (.str bs))) | _ => False)
      | _ => False)
  | .string, .sl b g i n => (match w.d with
      | .slice e => Opt (tab e) fun z => (match z.d with
        | .int .u8 => (match H[b]? with
          | some (.arr _ s _ gen (.ts l)) => Ck (Nat.beq g gen && Nat.beq s 1) (∃ bs : List UInt8, (l.drop i).take n = bs.map (fun b => T.int .u8 (b.toNat : Int)) ∧ K (.t (.str bs)))
          | _ => False)
        | _ => False)
      | _ => False)
  | _, _ => False

def xmakeSlice (tab : Tab) (ty : TypeId) (len cap : AV) (H : AH) (K : AV → AH → Prop) : Prop :=
  Opt (tab ty) fun y =>
  match y.d, len, cap with
  | .slice e, .t (.int _ n), .t (.int _ c) => Opt (tab e) fun z => Opt z.zero fun zs =>
    Ck (decide (0 ≤ n) && decide (n ≤ c) && decide (c * (z.bytes : Int) ≤ 140737488355328) && decide (c ≤ 9223372036854775807) && Nat.ble 1 z.size && Nat.beq zs.length z.size && zs.all T.one)
      (Br (decide (n < c)) (K (.sl H.length 1 0 n.toNat) (H ++ [.arr e z.size false 1 (.ts (List.replicate c.toNat (mkElem z.size zs)))])) (K (.sl H.length 0 0 n.toNat) (H ++ [.arr e z.size false 0 (.ts (List.replicate n.toNat (mkElem z.size zs)))])))
  | _, _, _ => False

def xextract (x : AV) (i : Nat) (K : AV → Prop) : Prop :=
  match x with
  | .tup vs => Opt vs[i]? K
  | _ => False

def xpick (c a b : AV) (K : AV → Prop) : Prop :=
  match c with
  | .t (.bool c) =>
    match a, b with
    | .t (.bool x), .t (.bool y) => K (.t (.bool (cond c x y)))
    | _, _ => Br c (K a) (K b)
  | _ => False

/-- A nil of a slice's type, where a variable gets it: a row that may grow. -/
def xassign (tab : Tab) (ty : TypeId) (x : AV) (H : AH) (K : AV → AH → Prop) : Prop :=
  match x with
  | .t .nils =>
    (match tab ty with
      | some y => (match y.d with
        | .slice e => (match tab e with
          | some z => (match Nat.ble 1 z.size with | true => K (.sl H.length 0 0 0) (H ++ [.arr e z.size true 0 (.ts [])]) | false => K x H)
          | none => K x H)
        | _ => K x H)
      | none => K x H)
  | _ => K x H

/-! ### Builtins -/

def lenA (H : AH) : AV → Option Nat
  | .t (.str s) => some s.length
  | .t (.vec _ l) => some l.length
  | .t .nils => some 0
  | .sl b g _ n =>
    match H[b]? with
    | some (.arr _ _ _ gen _) => match Nat.beq g gen with | true => some n | false => none
    | _ => none
  | .emp => some 0
  | _ => none

def lenTy : TypeDesc → Bool
  | .string => true
  | .slice _ => true
  | _ => false

def isStrA : AV → Bool
  | .t (.str _) => true
  | _ => false

def isStrD : TypeDesc → Bool
  | .string => true
  | _ => false

def xlen (tab : Tab) (ty : TypeId) (H : AH) (x : AV) (K : AV → Prop) : Prop :=
  Opt (tab ty) fun y =>
  match y.d with
  | .array n _ => K (.t (.int .i64 n))
  | _ => Ck (lenTy y.d && (isStrD y.d == isStrA x)) (Opt (lenA H x) fun n => K (.t (.int .i64 n)))

/-- What is appended: data that stands in memory or in a string. -/
def appended (H : AH) (s : Nat) : AV → Option Sq
  | .t (.str l) => match Nat.beq s 1 with | true => some (.ts (l.map fun c => .int .u8 (c.toNat : Int))) | false => none
  | .t (.vec s' l) => match Nat.beq s s' with | true => some (.ts l) | false => none
  | .t .nils => some (.ts [])
  | .sl b g i n =>
    match H[b]? with
    | some (.arr _ s' _ gen l) => match Nat.beq g gen && Nat.beq s s' with | true => some (l.part i n) | false => none
    | _ => none
  | .emp => some (.ts [])
  | _ => none

def sl? : AV → Option Nat
  | .sl b _ _ _ => some b
  | _ => none

def fitsRow (n bytes : Nat) : Bool := decide (n ≤ 9223372036854775807) && decide (n * bytes ≤ 140737488355328)

/-- Is the slice to append to a whole row of the walk's own, as it is now? (Its length may be told in two ways: 'len' must be the row's.) -/
def xappend (tab : Tab) (ty : TypeId) (H : AH) (a x : AV) (K : AV → AH → Prop) : Prop :=
  Opt (tab ty) fun y =>
  match y.d with
  | .slice e => Opt (tab e) fun z => Opt z.zero fun zs => Opt (appended H z.size x) fun news =>
    Ck (Nat.ble 1 z.size && Nat.beq zs.length z.size)
    (match a with
    | .t .nils => Ck (fitsRow news.length z.bytes) (K (.sl H.length 0 0 news.length) (H ++ [.arr e z.size true 0 news]))
    | .emp => Ck (fitsRow news.length z.bytes) (K (.sl H.length 0 0 news.length) (H ++ [.arr e z.size false 0 news]))
    | .sl b g i n =>
      (match H[b]? with
        | some (.arr e' s z' gen l) =>
          Ck (Nat.beq g gen && Nat.beq i 0 && Nat.beq e e' && Nat.beq s z.size) ((n = l.length ∧ Ck (fitsRow (n + news.length) z.bytes)
            (K (.sl b (gen + 2 - gen % 2) 0 (n + news.length)) (H.set b (.arr e' s z' (gen + 2 - gen % 2) (l.app news))))) ∨
            Ck (Nat.ble 1 l.length && Nat.ble (n + news.length) l.length) (K (.sl b gen 0 (n + news.length)) (H.set b (.arr e' s z' gen (l.put n news)))))
        | _ => False)
    | _ => False)
  | _ => False

/-- So many zeros, appended to nil. -/
def xappendZ (tab : Tab) (ty : TypeId) (a x : AV) (H : AH) (K : AV → AH → Prop) : Prop :=
  Opt (tab ty) fun y =>
  match y.d with
  | .slice e => Opt (tab e) fun z => Opt z.zero fun zs =>
    (match a, x with
    | .t .nils, .t (.int k n) =>
      Ck (sameK k .i64 && decide (0 < n) && fitsRow n.toNat z.bytes && Nat.ble 1 z.size && Nat.beq zs.length z.size && zs.all T.one)
        (K (.sl H.length 0 0 n.toNat) (H ++ [.arr e z.size true 0 (.ts (List.replicate n.toNat (mkElem z.size zs)))]))
    | _, _ => False)
  | _ => False

def xcap (tab : Tab) (ty : TypeId) (H : AH) (x : AV) (K : AV → Prop) : Prop :=
  Opt (tab ty) fun y =>
  match y.d, x with
  | .slice _, .t .nils => K (.t (.int .i64 0))
  | .slice _, .sl b g i n =>
    (match H[b]? with
      | some (.arr _ s z gen l) => Ck (Nat.beq g gen) (Br (z && Nat.beq l.length 0) (K (.t (.int .i64 0))) (Ck (Nat.beq (gen % 2) 1 && Nat.ble 1 s) (K (.t (.int .i64 ((l.length - i : Nat) : Int))))))
      | _ => False)
  | _, _ => False

/-- A copy into a row of the walk's own: all that is read. -/
def xcopy (tab : Tab) (ty : TypeId) (a x : AV) (H : AH) (K : AV → AH → Prop) : Prop :=
  Opt (tab ty) fun y =>
  match y.d with
  | .slice e => Opt (tab e) fun z =>
    (match a with
    | .sl b g i n =>
      (match H[b]? with
        | some (.arr e' s z' gen l) => Opt (appended H z.size x) fun news =>
          Ck (Nat.beq g gen && Nat.beq s z.size && Nat.ble 1 z.size && Nat.ble 1 l.length) (Ck (Nat.ble news.length n) (K (.t (.int .i64 news.length)) (H.set b (.arr e' s z' gen (l.put i news)))))
        | _ => False)
    | _ => False)
  | _ => False

def isIntD : TypeDesc → Bool
  | .int _ => true
  | _ => false

def xminmax (mx : Bool) (x y : AV) (K : AV → Prop) : Prop :=
  match x, y with
  | .t (.int k a), .t (.int k' b) => Ck (sameK k k') (K (.t (.int k (match mx with | true => max a b | false => min a b))))
  | _, _ => False

/-! ### Operations -/

abbrev CallP := FuncId → List AV → AH → (AV → AH → Prop) → Prop

def xcall (tab : Tab) (call : CallP) (c : Call) (ty : TypeId) (env : List (Nat × AV)) (H : AH) (K : AV → AH → Prop) : Prop :=
  match c.callee with
  | .builtin b =>
    (match b, c.argTypes.toList, c.args.toList with
    | .len, [t], [x] => xlen tab t H (opd env x) fun v => K v H
    | .append, [t, u], [x, y] => Opt (tab u) fun z => (match isIntD z.d with | true => xappendZ tab t (opd env x) (opd env y) H K | false => xappend tab t H (opd env x) (opd env y) K)
    | .cap, [t], [x] => xcap tab t H (opd env x) fun v => K v H
    | .copy, [t, _], [x, y] => xcopy tab t (opd env x) (opd env y) H K
    | .min, _, [x, y] => xminmax false (opd env x) (opd env y) fun v => K v H
    | .max, _, [x, y] => xminmax true (opd env x) (opd env y) fun v => K v H
    | _, _, _ => False)
  | .value f =>
    (match opd env f with
    | .t (.fn (.func g) first captured) => call g (first.map .t ++ (c.args.toList.map (opd env) ++ captured.map .t)) H K
    | .fn (.func g) first captured => call g (first ++ (c.args.toList.map (opd env) ++ captured)) H K
    | _ => False)
  | .invoke _ _ => False

def xnilCheck (H : AH) (x : AV) (K : AV → Prop) : Prop :=
  match x with
  | .t (.iptr c) => K x
  | .ptr b g i o =>
    (match H[b]? with
      | some (.box _) => K x
      | some (.arr _ _ _ gen _) => Ck (Nat.beq g gen) (K x)
      | _ => False)
  | .t (.fn (.func f) a b) => K x
  | .fn (.func f) a b => K x
  | _ => False

/-- Through a string's letters (of one byte each). -/
def xrange (tab : Tab) (ty : TypeId) (x : AV) (H : AH) (K : AV → AH → Prop) : Prop :=
  Opt (tab ty) fun y =>
  match y.d, x with
  | .string, .t (.str s) => K (.ptr H.length 0 0 0) (H ++ [.iter s 0])
  | _, _ => False

def xnext (x : AV) (st : Bool) (H : AH) (K : AV → AH → Prop) : Prop :=
  match x with
  | .ptr b _ _ o =>
    (match H[b]? with
      | some (.iter s p) => Ck (st && Nat.beq o 0)
        (match s[p]? with
        | some c => Ck (Nat.blt c.toNat 128) (K (.tup [.t (.bool true), .t (.int .i64 p), .t (.int .i32 c.toNat)]) (H.set b (.iter s (p + 1))))
        | none => K (.tup [.t (.bool false)]) H)
      | _ => False)
  | _ => False

def xop (tab : Tab) (call : CallP) (o : Oper) (env : List (Nat × AV)) (H : AH) (K : AV → AH → Prop) : Prop :=
  match o.op with
  | .move x => K (opd env x) H
  | .assign x => xassign tab o.type (opd env x) H K
  | .pick c a b => xpick (opd env c) (opd env a) (opd env b) fun v => K v H
  | .alloc e => Opt (tab e) fun y => Opt y.zero fun zs => Ck (zs.all T.one && Nat.beq zs.length y.size) (K (.ptr H.length 0 0 0) (H ++ [.box (zs.map .t)]))
  | .box e x => Ck ((opd env x).cells.all AV.one) (K (.ptr H.length 0 0 0) (H ++ [.box (opd env x).cells]))
  | .build t parts => xbuild tab t (parts.toList.map fun p => (p.1, opd env p.2)) fun v => K v H
  | .buildSlice t n parts => xbuildSlice tab t n (parts.toList.map fun p => (p.1, opd env p.2)) H K
  | .load t a => xload tab t H (opd env a) fun v => K v H
  | .store t a x => xstore tab t H (opd env a) (opd env x) fun H' => K (.tup []) H'
  | .nilCheck x => xnilCheck H (opd env x) fun v => K v H
  | .binOp op t x y _ => xbin tab op t H (opd env x) (opd env y) (isConst y) fun v => K (.t v) H
  | .unOp op _ x => xun op (opd env x) fun v => K (.t v) H
  | .convert s d x => xconvert tab s d (opd env x) H fun v => K v H
  | .makeInterface t x => Opt (tab t) fun y => Ck (match y.d with | .interface _ => false | _ => true)
      (match opd env x with | .t v => K (.t (.ifc t v)) H | v => K (.ifc t v) H)
  | .makeFunc f first captured => K (.fn f (first.toList.map (opd env)) (captured.toList.map (opd env))) H
  | .makeSlice t l c => xmakeSlice tab t (opd env l) (opd env c) H K
  | .slice t x lo hi mx => xslice tab t H (opd env x) (lo.map (opd env)) (hi.map (opd env)) (mx.map (opd env)) fun v => K v H
  | .fieldAddr t x k => xfieldAddr tab t H (opd env x) k fun v => K v H
  | .field t x k => xfield tab t (opd env x) k fun v => K v H
  | .indexAddr t x i => xindexAddr tab t H (opd env x) (opd env i) fun v => K v H
  | .index t x i => xindex tab t (opd env x) (opd env i) fun v => K v H
  | .extract x i => xextract (opd env x) i fun v => K v H
  | .call c => xcall tab call c o.type env H K
  | .range t x => xrange tab t (opd env x) H K
  | .next x st => xnext (opd env x) st H K
  | _ => False

/-- The slot of an operation's guard. -/
def guardSlot (ops : Array Oper) (j : Nat) : Option Nat := (ops[j]?).bind (·.dst)

/-- One operation, or none, as its guard says. -/
def xguard (tab : Tab) (call : CallP) (ops : Array Oper) (o : Oper) (s : St) (K : St → Prop) : Prop :=
  match s with
  | ⟨env, H⟩ =>
  match o.guard with
  | none => xop tab call o env H fun v H => stp ⟨env, H⟩ o.dst v H K
  | some (j, want) =>
    Opt (guardSlot ops j) fun d =>
    match lk env d with
    | .t (.bool c) =>
      (match want with
      | true => Br c (xop tab call o ((d, .t (.bool true)) :: env) H fun v H' => stp ⟨(d, .t (.bool true)) :: env, H⟩ o.dst v H' K) (stp ⟨(d, .t (.bool false)) :: env, H⟩ o.dst (.tup []) H K)
      | false => Br c (stp ⟨(d, .t (.bool true)) :: env, H⟩ o.dst (.tup []) H K) (xop tab call o ((d, .t (.bool false)) :: env) H fun v H' => stp ⟨(d, .t (.bool false)) :: env, H⟩ o.dst v H' K))
    | .tup [] => stp ⟨env, H⟩ o.dst (.tup []) H K
    | _ => False

def xops (tab : Tab) (call : CallP) (ops : Array Oper) : List Oper → St → (St → Prop) → Prop
  | [], s, K => K s
  | o :: r, s, K => xguard tab call ops o s fun s' => xops tab call ops r s' K

inductive Ex where
  | normal | exit (id : Nat) | ret

end Go.Proofs.YthpkehhghcpolaaDoor
