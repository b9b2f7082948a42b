/-
  What one operation does in a run without unknowns, as a function that Lean's kernel reckons; it says what the walk says.
-/
import Derived.Test.YthpkehhghcpolaaDoorFrz
import Derived.Test.YthpkehhghcpolaaDoorExt
namespace Go.Proofs.YthpkehhghcpolaaDoor
open Go.RowKit
set_option linter.unusedVariables false
set_option linter.unusedSimpArgs false

/-- What an operation does to the walk's own memory. -/
inductive HC where
  | no | push (b : Blk) | set (b : Nat) (blk : Blk)

def HC.on (H : AH) : HC → AH
  | .no => H
  | .push b => H ++ [b]
  | .set b blk => H.set b blk

noncomputable def NOpt {α R : Type} (o : Option α) (K : α → Option R) : Option R := @Option.rec α (fun _ => Option R) none K o
noncomputable def NCk {R : Type} (c : Bool) (p : Option R) : Option R := @Bool.rec (fun _ => Option R) none p c
noncomputable def NBr {R : Type} (c : Bool) (p q : Option R) : Option R := @Bool.rec (fun _ => Option R) q p c

theorem nopt_iff {α R : Type} {o : Option α} {K : α → Option R} {r : R} : NOpt o K = some r ↔ ∃ a, o = some a ∧ K a = some r := by cases o <;> simp [NOpt]
theorem nck_iff {R : Type} {c : Bool} {p : Option R} {r : R} : NCk c p = some r ↔ c = true ∧ p = some r := by cases c <;> simp [NCk]
theorem nbr_iff {R : Type} {c : Bool} {p q : Option R} {r : R} : NBr c p q = some r ↔ (c = true ∧ p = some r) ∨ (c = false ∧ q = some r) := by cases c <;> simp [NBr]

/-! ### Lists, views: as the kernel likes them -/

noncomputable def lall {α : Type} (p : α → Bool) (l : List α) : Bool := @List.rec α (fun _ => Bool) true (fun x _ ih => @Bool.rec (fun _ => Bool) false ih (p x)) l
theorem lall_eq {α : Type} (p : α → Bool) : ∀ l : List α, lall p l = l.all p
  | [] => rfl
  | x :: r => by
    show @Bool.rec (fun _ => Bool) false (lall p r) (p x) = _
    rw [lall_eq p r, List.all_cons]
    cases p x <;> rfl

noncomputable def llen {α : Type} (l : List α) : Nat := @List.rec α (fun _ => Nat) 0 (fun _ _ ih => Nat.succ ih) l
theorem llen_eq {α : Type} : ∀ l : List α, llen l = l.length
  | [] => rfl
  | x :: r => congrArg Nat.succ (llen_eq r)

noncomputable def lset {α : Type} (l : List α) (o : Nat) (xs : List α) : List α :=
  @List.rec α (fun _ => Nat → List α → List α) (fun _ _ => [])
    (fun y r go o xs => @Nat.rec (fun _ => List α) (@List.rec α (fun _ => List α) (y :: r) (fun x xs' _ => x :: go 0 xs') xs) (fun j _ => y :: go j xs) o) l o xs
theorem setAt_nil {α : Type} : ∀ (xs : List α) (o : Nat), setAt ([] : List α) o xs = []
  | [], o => rfl
  | x :: r, o => by simp only [setAt, List.set_nil]; exact setAt_nil r _
theorem setAt_succ {α : Type} : ∀ (xs : List α) (y : α) (l : List α) (o : Nat), setAt (y :: l) (o + 1) xs = y :: setAt l o xs
  | [], y, l, o => rfl
  | x :: r, y, l, o => by simp only [setAt, List.set_cons_succ]; exact setAt_succ r y _ _
theorem lset_eq {α : Type} : ∀ (l : List α) (o : Nat) (xs : List α), lset l o xs = setAt l o xs
  | [], o, xs => (setAt_nil xs o).symm
  | y :: r, o + 1, xs => by
    show y :: lset r o xs = _
    rw [lset_eq r, setAt_succ]
  | y :: r, 0, [] => rfl
  | y :: r, 0, x :: xs => by
    show x :: lset r 0 xs = _
    rw [lset_eq r]
    simp only [setAt, List.set_cons_zero]
    exact (setAt_succ xs x r 0).symm

noncomputable def tone : T → Bool :=
  @T.rec (fun _ => Bool) (fun _ => Unit) (fun _ => true) (fun _ _ => true) (fun _ => true) true true true true (fun _ _ => true) (fun _ _ _ => true) (fun _ _ => false) (fun _ _ _ _ _ => true) (fun _ _ _ => true) () (fun _ _ _ _ => ())
theorem tone_eq : tone = T.one := funext fun x => by cases x <;> rfl
noncomputable def aone : AV → Bool :=
  @AV.rec (fun _ => Bool) (fun _ => Unit) tone (fun _ _ _ _ => true) (fun _ _ _ _ => true) (fun _ _ => false) (fun _ _ => false) (fun _ _ _ _ _ => true) (fun _ _ _ => true) (fun _ _ _ _ => false) true false () (fun _ _ _ _ => ())
theorem aone_eq : aone = AV.one := funext fun x => by
  cases x with
  | t x => exact congrFun tone_eq x
  | _ => rfl
noncomputable def tcells1 : T → List AV :=
  @T.rec (fun _ => List AV) (fun _ => Unit) (fun b => [.t (.bool b)]) (fun k n => [.t (.int k n)]) (fun s => [.t (.str s)]) [.t .nilp] [.t .nils] [.t .nilf] [.t .nili] (fun cs _ => [.t (.iptr cs)]) (fun s l _ => [.t (.vec s l)])
    (fun cs _ => cs.map .t) (fun f a b _ _ => [.t (.fn f a b)]) (fun t v _ => [.t (.ifc t v)]) () (fun _ _ _ _ => ())
noncomputable def acells : AV → List AV :=
  @AV.rec (fun _ => List AV) (fun _ => Unit) tcells1 (fun b g i o => [.ptr b g i o]) (fun b g i n => [.sl b g i n]) (fun cs _ => cs) (fun cs _ => [.tup cs]) (fun f a b _ _ => [.fn f a b]) (fun t v _ => [.ifc t v]) (fun e s z l => [.own e s z l]) [.emp] [.junk] () (fun _ _ _ _ => ())
theorem acells_eq (x : AV) : acells x = x.cells := by
  cases x with
  | t x => cases x <;> rfl
  | _ => rfl

section
variable {R : Type}
noncomputable def aPtr (a : AV) (K : Nat → Nat → Nat → Nat → Option R) (d : Option R) : Option R :=
  @AV.rec (fun _ => (Nat → Nat → Nat → Nat → Option R) → Option R → Option R) (fun _ => Unit)
    (fun _ _ d => d) (fun b g i o K _ => K b g i o) (fun _ _ _ _ _ d => d) (fun _ _ _ d => d) (fun _ _ _ d => d) (fun _ _ _ _ _ _ d => d) (fun _ _ _ _ d => d) (fun _ _ _ _ _ d => d) (fun _ d => d) (fun _ d => d) () (fun _ _ _ _ => ()) a K d
theorem aPtr_cases (x : AV) (K : Nat → Nat → Nat → Nat → Option R) (d : Option R) : (∃ b g i o, x = .ptr b g i o ∧ aPtr x K d = K b g i o) ∨ aPtr x K d = d := by
  cases x <;> first | exact .inl ⟨_, _, _, _, rfl, rfl⟩ | exact .inr rfl
noncomputable def oBox (x : Option Blk) (K : List AV → Option R) (d : Option R) : Option R :=
  @Option.rec Blk (fun _ => (List AV → Option R) → Option R → Option R) (fun _ d => d)
    (fun b => @Blk.rec (fun _ => (List AV → Option R) → Option R → Option R) (fun _ d => d) (fun cells K _ => K cells) (fun _ _ _ _ _ _ d => d) (fun _ _ _ d => d) b) x K d
theorem oBox_cases (x : Option Blk) (K : List AV → Option R) (d : Option R) : (∃ cells, x = some (.box cells) ∧ oBox x K d = K cells) ∨ oBox x K d = d := by
  rcases x with _ | (_ | _ | _ | _) <;> first | exact .inl ⟨_, rfl, rfl⟩ | exact .inr rfl
end

/-- The bytes that a row's elements are. -/
def bytesOf : List T → Option (List UInt8)
  | [] => some []
  | .int .u8 n :: r => match decide (0 ≤ n) && decide (n < 256), bytesOf r with | true, some l => some (UInt8.ofNat n.toNat :: l) | _, _ => none
  | _ => none

theorem bytesOf_ok : ∀ {l : List T} {bs : List UInt8}, bytesOf l = some bs → l = bs.map fun b => T.int .u8 (b.toNat : Int)
  | [], bs, h => by simp [bytesOf] at h; subst h; rfl
  | x :: r, bs, h => by
    unfold bytesOf at h
    split at h
    · rename_i e; cases e
    · rename_i n r' e
      cases e
      split at h
      · rename_i l hc hl
        cases h
        simp only [Bool.and_eq_true, decide_eq_true_eq] at hc
        rw [bytesOf_ok hl]
        simp only [List.map_cons, List.cons.injEq, and_true, T.int.injEq, true_and]
        rw [UInt8.toNat_ofNat_of_lt' (by simp [UInt8.size]; omega)]
        omega
      · cases h
    · cases h

section
variable {R : Type}

noncomputable def nint (op : BinOp) (k : IntKind) (a : Int) (k' : IntKind) (b : Int) (K : T → Option R) : Option R :=
  match op with
  | .shl => NCk (decide (0 ≤ b)) (K (.int k (k.wrap (a * 2 ^ (min b.toNat k.bits)))))
  | .shr => NCk (decide (0 ≤ b)) (K (.int k (a.fdiv (2 ^ (min b.toNat k.bits)))))
  | .add => NCk (sameK k k') (K (.int k (k.wrap (a + b))))
  | .sub => NCk (sameK k k') (K (.int k (k.wrap (a - b))))
  | .mul => NCk (sameK k k') (K (.int k (k.wrap (a * b))))
  | .quo => NCk (sameK k k') (NCk (!decide (b = 0)) (K (.int k (k.wrap (a.tdiv b)))))
  | .rem => NCk (sameK k k') (NCk (!decide (b = 0)) (K (.int k (a.tmod b))))
  | .and => NCk (sameK k k') (K (.int k (bitsOp .and k a b)))
  | .or => NCk (sameK k k') (K (.int k (bitsOp .or k a b)))
  | .xor => NCk (sameK k k') (K (.int k (bitsOp .xor k a b)))
  | .andNot => NCk (sameK k k') (K (.int k (bitsOp .andNot k a b)))
  | .eql => NCk (sameK k k') (K (.bool (a == b)))
  | .neq => NCk (sameK k k') (K (.bool (a != b)))
  | .lss => NCk (sameK k k') (K (.bool (decide (a < b))))
  | .leq => NCk (sameK k k') (K (.bool (decide (a ≤ b))))
  | .gtr => NCk (sameK k k') (K (.bool (decide (a > b))))
  | .geq => NCk (sameK k k') (K (.bool (decide (a ≥ b))))

noncomputable def nstr (op : BinOp) (a b : List UInt8) (K : T → Option R) : Option R :=
  match op with
  | .add => NCk (decide (a.length + b.length ≤ 9223372036854775807)) (K (.str (a ++ b)))
  | .eql => K (.bool (a == b))
  | .neq => K (.bool (!(a == b)))
  | .lss => K (.bool (Op.bytesLess a b))
  | .leq => K (.bool (Op.bytesLess a b || a == b))
  | .gtr => K (.bool (!(Op.bytesLess a b || a == b)))
  | .geq => K (.bool (!(Op.bytesLess a b)))
  | _ => none

noncomputable def nisNil (get : Nat → Option Blk) : AV → Option Bool
  | .t .nilp => some true
  | .t .nils => some true
  | .t .nilf => some true
  | .t .nili => some true
  | .t (.iptr _) => some false
  | .t (.vec _ _) => some false
  | .t (.fn _ _ _) => some false
  | .t (.ifc _ _) => some false
  | .fn _ _ _ => some false
  | .ifc _ _ => some false
  | .emp => some false
  | .ptr b g _ _ =>
    match get b with
    | some (.box _) => some false
    | some (.arr _ _ _ gen _) => match Nat.beq g gen with | true => some false | false => none
    | _ => none
  | .sl b g _ _ =>
    match get b with
    | some (.arr _ _ z gen l) => match Nat.beq g gen with | true => some (z && Nat.beq l.length 0) | false => none
    | _ => none
  | _ => none

noncomputable def neq (tab : Tab) (eqs : TypeId → Bool) (ty : TypeId) (get : Nat → Option Blk) (x y : AV) (yc : Bool) (K : Bool → Option R) : Option R :=
  NOpt (tab ty) fun i =>
  match x, y with
  | .t (.bool a), .t (.bool b) => NCk (match i.d with | .bool => true | _ => false) (K (a == b))
  | .t (.agg a), .t (.agg b) =>
    match i.d with
    | .struct fs => NCk (eqs ty) (NOpt (eqFs tab a b fs.toList) K)
    | _ => none
  | x, y => NCk (nilTy i.d && nilFits i.d y && kindFits i.d x && (yc || !isIfaceD i.d)) (NOpt (nisNil get x) K)

noncomputable def nbin (tab : Tab) (eqs : TypeId → Bool) (op : BinOp) (ty : TypeId) (get : Nat → Option Blk) (x y : AV) (yc : Bool) (K : T → Option R) : Option R :=
  match x, y with
  | .t (.int k a), .t (.int k' b) => nint op k a k' b K
  | .t (.str a), .t (.str b) => nstr op a b K
  | x, y =>
    match op with
    | .eql => neq tab eqs ty get (toAgg x) (toAgg y) yc fun b => K (.bool b)
    | .neq => neq tab eqs ty get (toAgg x) (toAgg y) yc fun b => K (.bool (!b))
    | _ => none

noncomputable def nun (op : UnOp) (x : AV) (K : T → Option R) : Option R :=
  match op, x with
  | .neg, .t (.int k a) => K (.int k (k.wrap (0 - a)))
  | .xor, .t (.int k a) => K (.int k (bitsOp .xor k (if k.signed then -1 else k.max) a))
  | .not, .t (.bool b) => K (.bool (!b))
  | _, _ => none

noncomputable def npartA (y : TyI) (cells : List AV) (o : Nat) (K : AV → Option R) : Option R :=
  match y.isAgg with
  | true => NCk (Nat.ble (o + y.size) cells.length) (K (.agg ((cells.drop o).take y.size)))
  | false => NOpt cells[o]? K

noncomputable def npartT (y : TyI) (cells : List T) (o : Nat) (K : T → Option R) : Option R :=
  match y.isAgg with
  | true => NCk (Nat.ble (o + y.size) cells.length) (K (.agg ((cells.drop o).take y.size)))
  | false => NOpt cells[o]? K

noncomputable def nload (tab : Tab) (ty : TypeId) (get : Nat → Option Blk) (a : AV) (K : AV → Option R) : Option R :=
  NOpt (tab ty) fun y =>
  match a with
  | .t (.iptr cells) => npartT y cells 0 fun x => K (.t x)
  | .ptr b g i o =>
    match get b with
    | some (.box cells) => npartA y cells o K
    | some (.arr _ _ _ gen (.ts l)) => NCk (Nat.beq g gen) (NOpt l[i]? fun e => npartT y e.cells o fun x => K (.t x))
    | some (.arr _ _ _ gen (.vs l)) => NCk (Nat.beq g gen) (NOpt l[i]? fun e => npartA y e.cells o K)
    | _ => none
  | _ => none

noncomputable def nstore0 (tab : Tab) (ty : TypeId) (get : Nat → Option Blk) (a v : AV) (K : HC → Option R) : Option R :=
  NOpt (tab ty) fun y =>
  match a with
  | .ptr b g i o =>
    match get b with
    | some (.box cells) => NCk (Nat.beq v.cells.length y.size && Nat.ble (o + y.size) cells.length && v.cells.all AV.one) (K (.set b (.box (setAt cells o v.cells))))
    | some (.arr e s z gen (.ts l)) =>
      NCk (Nat.beq g gen) (NOpt l[i]? fun x =>
        match toTs v.cells with
        | some cs => NCk (Nat.beq cs.length y.size && Nat.ble (o + y.size) x.cells.length && cs.all T.one) (K (.set b (.arr e s z gen (.ts (l.set i (setCells x o cs))))))
        | none => NCk (Nat.beq v.cells.length y.size && Nat.ble (o + y.size) x.cells.length && v.cells.all AV.one) (K (.set b (.arr e s z gen (.vs ((l.map .t).set i (setCellsA (.t x) o v.cells)))))))
    | some (.arr e s z gen (.vs l)) =>
      NCk (Nat.beq g gen) (NOpt l[i]? fun x =>
        NCk (Nat.beq v.cells.length y.size && Nat.ble (o + y.size) x.cells.length && v.cells.all AV.one) (K (.set b (.arr e s z gen (.vs (l.set i (setCellsA x o v.cells)))))))
    | _ => none
  | _ => none

noncomputable def nstore (tab : Tab) (ty : TypeId) (get : Nat → Option Blk) (a v : AV) (K : HC → Option R) : Option R :=
  aPtr a (fun b g i o => oBox (get b) (fun cells => NOpt (tab ty) fun y => NCk (Nat.beq (llen (acells v)) y.size) (NCk (Nat.ble (Nat.add o y.size) (llen cells)) (NCk (lall aone (acells v)) (K (.set b (.box (lset cells o (acells v)))))))) (nstore0 tab ty get a v K)) (nstore0 tab ty get a v K)

theorem nck3 {R : Type} (a b c : Bool) (p : Option R) : NCk a (NCk b (NCk c p)) = NCk (a && b && c) p := by cases a <;> cases b <;> cases c <;> rfl

theorem nstore_eq (tab : Tab) (ty : TypeId) (get : Nat → Option Blk) (a v : AV) (K : HC → Option R) : nstore tab ty get a v K = nstore0 tab ty get a v K := by
  unfold nstore
  rcases aPtr_cases a (fun b g i o => oBox (get b) (fun cells => NOpt (tab ty) fun y => NCk (Nat.beq (llen (acells v)) y.size) (NCk (Nat.ble (Nat.add o y.size) (llen cells)) (NCk (lall aone (acells v)) (K (.set b (.box (lset cells o (acells v)))))))) (nstore0 tab ty get a v K)) (nstore0 tab ty get a v K) with ⟨b, g, i, o, ha, h⟩ | h
  · rw [h]
    rcases oBox_cases (get b) (fun cells => NOpt (tab ty) fun y => NCk (Nat.beq (llen (acells v)) y.size) (NCk (Nat.ble (Nat.add o y.size) (llen cells)) (NCk (lall aone (acells v)) (K (.set b (.box (lset cells o (acells v)))))))) (nstore0 tab ty get a v K) with ⟨cells, hb, h⟩ | h
    · rw [h]
      unfold nstore0
      refine congrArg (NOpt _) (funext fun y => ?_)
      rw [ha]
      simp only [hb, acells_eq, llen_eq, lset_eq, aone_eq, lall_eq]
      exact nck3 _ _ _ _
    · rw [h]
  · rw [h]

noncomputable def nfieldAddr (tab : Tab) (ty : TypeId) (get : Nat → Option Blk) (a : AV) (k : Nat) (K : AV → Option R) : Option R :=
  NOpt (tab ty) fun y => NOpt (fieldOf y k) fun f => NOpt (tab f.type) fun z => NCk (Nat.ble 1 z.size)
  (match a with
    | .t (.iptr cells) => K (.t (.iptr (cells.drop f.offset)))
    | .ptr b g i o =>
      (match get b with
        | some (.box _) => K (.ptr b g i (o + f.offset))
        | some (.arr _ _ _ gen _) => NCk (Nat.beq g gen) (K (.ptr b g i (o + f.offset)))
        | _ => none)
    | _ => none)

noncomputable def nfield (tab : Tab) (ty : TypeId) (a : AV) (k : Nat) (K : AV → Option R) : Option R :=
  NOpt (tab ty) fun y => NOpt (fieldOf y k) fun f => NOpt (tab f.type) fun z =>
  match a with
  | .t (.agg cs) => npartT z cs f.offset fun x => K (.t x)
  | .agg cs => npartA z cs f.offset K
  | _ => none

noncomputable def nindexAddr (tab : Tab) (ty : TypeId) (get : Nat → Option Blk) (a : AV) (ix : AV) (K : AV → Option R) : Option R :=
  NOpt (tab ty) fun y =>
  match ix with
  | .t (.int _ i) =>
    match y.d, a with
    | .slice e, .t (.vec s l) => NOpt (tab e) fun z => NCk (Nat.beq s z.size && decide (0 ≤ i)) (NOpt l[i.toNat]? fun x => K (.t (.iptr x.cells)))
    | .slice e, .sl b g j len => NOpt (tab e) fun z =>
      (match get b with
        | some (.arr _ s _ gen _) => NCk (Nat.beq g gen && Nat.beq s z.size && inB i len) (K (.ptr b g (j + i.toNat) 0))
        | _ => none)
    | .array n e, .ptr b g j o => NOpt (tab e) fun z => NCk (inB i n)
      (match get b with
        | some (.box _) => K (.ptr b g j (o + i.toNat * z.size))
        | some (.arr _ _ _ gen _) => NCk (Nat.beq g gen) (K (.ptr b g j (o + i.toNat * z.size)))
        | _ => none)
    | .array n e, .t (.iptr cells) => NOpt (tab e) fun z => NCk (inB i n) (K (.t (.iptr (cells.drop (i.toNat * z.size)))))
    | _, _ => none
  | _ => none

noncomputable def nindex (tab : Tab) (ty : TypeId) (a : AV) (ix : AV) (K : AV → Option R) : Option R :=
  NOpt (tab ty) fun y =>
  match ix with
  | .t (.int _ i) =>
    match y.d, a with
    | .string, .t (.str s) => NCk (decide (0 ≤ i)) (NOpt s[i.toNat]? fun c => K (.t (.int .u8 c.toNat)))
    | .array n e, .t (.agg cs) => NOpt (tab e) fun z => NCk (inB i n) (npartT z cs (i.toNat * z.size) fun x => K (.t x))
    | .array n e, .agg cs => NOpt (tab e) fun z => NCk (inB i n) (npartA z cs (i.toNat * z.size) K)
    | _, _ => none
  | _ => none

noncomputable def nbound (v : Option AV) (dflt : Nat) (most : Nat) (K : Nat → Option R) : Option R :=
  match v with
  | none => K dflt
  | some (.t (.int _ n)) => NCk (decide (0 ≤ n) && decide (n ≤ (most : Int))) (K n.toNat)
  | _ => none

noncomputable def nslice (tab : Tab) (ty : TypeId) (get : Nat → Option Blk) (a : AV) (lo hi mx : Option AV) (K : AV → Option R) : Option R :=
  NOpt (tab ty) fun y =>
  match mx with
  | some m =>
    match y.d, lo, hi, m with
    | .slice e, some (.t (.int _ 0)), some (.t (.int _ 0)), .t (.int _ 0) => NOpt (tab e) fun _ =>
      (match a with
      | .t .nils => K (.t .nils)
      | .t (.vec _ _) => K .emp
      | .emp => K .emp
      | .sl b g _ _ =>
        (match get b with
          | some (.arr _ _ z gen l) => NCk (Nat.beq g gen) (NBr (z && Nat.beq l.length 0) (K (.t .nils)) (K .emp))
          | _ => none)
      | _ => none)
    | _, _, _, _ => none
  | none =>
    match y.d, a with
    | .string, .t (.str s) => nbound hi s.length s.length fun h => nbound lo 0 h fun l => K (.t (.str ((s.drop l).take (h - l))))
    | .slice e, .t (.vec s l) => NOpt (tab e) fun z => NCk (Nat.beq s z.size) (nbound hi l.length l.length fun h => nbound lo 0 h fun o => K (.t (.vec s ((l.drop o).take (h - o)))))
    | .slice e, .t .nils => NOpt (tab e) fun _ => nbound hi 0 0 fun h => nbound lo 0 h fun _ => K (.t .nils)
    | .slice e, .sl b g i n => NOpt (tab e) fun z =>
      (match get b with
        | some (.arr _ s _ gen l) => NCk (Nat.beq g gen && Nat.beq s z.size) (nbound hi n (room gen s i n l.length) fun h => nbound lo 0 h fun o => K (.sl b g (i + o) (h - o)))
        | _ => none)
    | _, _ => none

noncomputable def nfill (place : Nat → Option (Nat × Nat)) (cells : List AV) : List (Nat × AV) → (AV → Option R) → Option R
  | [], K => K (.agg cells)
  | (k, v) :: r, K => NOpt (place k) fun p =>
    NCk (Nat.beq (llen (acells v)) p.2) (NCk (Nat.ble (Nat.add p.1 p.2) (llen cells)) (NCk (lall aone (acells v)) (nfill place (lset cells p.1 (acells v)) r K)))

noncomputable def nbuild (tab : Tab) (ty : TypeId) (parts : List (Nat × AV)) (K : AV → Option R) : Option R :=
  NOpt (tab ty) fun y => NOpt y.zero fun zs => NCk (zs.all T.one)
  (match y.d with
  | .struct fs => NCk (fs.toList.all fun f => (tab f.type).isSome) (nfill (fun k => fs[k]?.bind fun f => (tab f.type).map fun z => (f.offset, z.size)) (zs.map .t) parts K)
  | .array _ e => NOpt (tab e) fun z => nfill (fun k => some (k * z.size, z.size)) (zs.map .t) parts K
  | _ => none)

noncomputable def nbuildSlice (tab : Tab) (ty : TypeId) (len : Nat) (parts : List (Nat × AV)) (get : Nat → Option Blk) (hl : Nat) (K : AV → HC → Option R) : Option R :=
  NOpt (tab ty) fun y =>
  match y.d with
  | .slice e => NOpt (tab e) fun z => NOpt (elems z.size 0 parts) fun l =>
    NCk (Nat.beq l.length len && Nat.ble 1 z.size && Nat.ble (len * z.size) 16777216 && z.zero.isSome) (K (.sl hl 0 0 len) (.push (.arr e z.size false 0 (seqOf l))))
  | _ => none

noncomputable def nconvert (tab : Tab) (src dst : TypeId) (x : AV) (get : Nat → Option Blk) (K : AV → Option R) : Option R :=
  NOpt (tab dst) fun y => NOpt (tab src) fun w =>
  match y.d, x with
  | .int k, .t (.int _ n) => K (.t (.int k (k.wrap n)))
  | .string, .t (.str s) => K (.t (.str s))
  | .string, .t .nils => (match w.d with | .slice e => NOpt (tab e) fun z => (match z.d with | .int .u8 => K (.t (.str [])) | _ => none) | _ => none)
  | .string, .t (.vec s l) => (match w.d with
      | .slice e => NOpt (tab e) fun z => (match z.d with | .int .u8 => NCk (Nat.beq s 1) (NOpt (bytesOf l) fun bs => K (.t (.str bs))) | _ => none)
      | _ => none)
  | .string, .sl b g i n => (match w.d with
      | .slice e => NOpt (tab e) fun z => (match z.d with
        | .int .u8 => (match get b with
          | some (.arr _ s _ gen (.ts l)) => NCk (Nat.beq g gen && Nat.beq s 1) (NOpt (bytesOf ((l.drop i).take n)) fun bs => K (.t (.str bs)))
          | _ => none)
        | _ => none)
      | _ => none)
  | _, _ => none

noncomputable def nmakeSlice (tab : Tab) (ty : TypeId) (len cap : AV) (get : Nat → Option Blk) (hl : Nat) (K : AV → HC → Option R) : Option R :=
  NOpt (tab ty) fun y =>
  match y.d, len, cap with
  | .slice e, .t (.int _ n), .t (.int _ c) => NOpt (tab e) fun z => NOpt z.zero fun zs =>
    NCk (decide (0 ≤ n) && decide (n ≤ c) && decide (c * (z.bytes : Int) ≤ 140737488355328) && decide (c ≤ 9223372036854775807) && Nat.ble 1 z.size && Nat.beq zs.length z.size && zs.all T.one)
      (NBr (decide (n < c)) (K (.sl hl 1 0 n.toNat) (.push (.arr e z.size false 1 (.ts (List.replicate c.toNat (mkElem z.size zs)))))) (K (.sl hl 0 0 n.toNat) (.push (.arr e z.size false 0 (.ts (List.replicate n.toNat (mkElem z.size zs)))))))
  | _, _, _ => none

noncomputable def nrange (tab : Tab) (ty : TypeId) (x : AV) (get : Nat → Option Blk) (hl : Nat) (K : AV → HC → Option R) : Option R :=
  NOpt (tab ty) fun y =>
  match y.d, x with
  | .string, .t (.str s) => K (.ptr hl 0 0 0) (.push (.iter s 0))
  | _, _ => none

noncomputable def nnext (x : AV) (st : Bool) (get : Nat → Option Blk) (K : AV → HC → Option R) : Option R :=
  match x with
  | .ptr b _ _ o =>
    (match get b with
      | some (.iter s p) => NCk (st && Nat.beq o 0)
        (match s[p]? with
        | some c => NCk (Nat.blt c.toNat 128) (K (.tup [.t (.bool true), .t (.int .i64 p), .t (.int .i32 c.toNat)]) (.set b (.iter s (p + 1))))
        | none => K (.tup [.t (.bool false)]) .no)
      | _ => none)
  | _ => none

noncomputable def nextract (x : AV) (i : Nat) (K : AV → Option R) : Option R :=
  match x with
  | .tup vs => NOpt vs[i]? K
  | _ => none

noncomputable def npick (c a b : AV) (K : AV → Option R) : Option R :=
  match c with
  | .t (.bool c) =>
    match a, b with
    | .t (.bool x), .t (.bool y) => K (.t (.bool (cond c x y)))
    | _, _ => NBr c (K a) (K b)
  | _ => none

noncomputable def nassign (tab : Tab) (ty : TypeId) (x : AV) (get : Nat → Option Blk) (hl : Nat) (K : AV → HC → Option R) : Option R :=
  match x with
  | .t .nils =>
    (match tab ty with
      | some y => (match y.d with
        | .slice e => (match tab e with
          | some z => (match Nat.ble 1 z.size with | true => K (.sl hl 0 0 0) (.push (.arr e z.size true 0 (.ts []))) | false => K x .no)
          | none => K x .no)
        | _ => K x .no)
      | none => K x .no)
  | _ => K x .no

noncomputable def nlenA (get : Nat → Option Blk) : AV → Option Nat
  | .t (.str s) => some s.length
  | .t (.vec _ l) => some l.length
  | .t .nils => some 0
  | .sl b g _ n =>
    match get b with
    | some (.arr _ _ _ gen _) => match Nat.beq g gen with | true => some n | false => none
    | _ => none
  | .emp => some 0
  | _ => none

noncomputable def nlen (tab : Tab) (ty : TypeId) (get : Nat → Option Blk) (x : AV) (K : AV → Option R) : Option R :=
  NOpt (tab ty) fun y =>
  match y.d with
  | .array n _ => K (.t (.int .i64 n))
  | _ => NCk (lenTy y.d && (isStrD y.d == isStrA x)) (NOpt (nlenA get x) fun n => K (.t (.int .i64 n)))

noncomputable def nappended (get : Nat → Option Blk) (s : Nat) : AV → Option Sq
  | .t (.str l) => match Nat.beq s 1 with | true => some (.ts (l.map fun c => .int .u8 (c.toNat : Int))) | false => none
  | .t (.vec s' l) => match Nat.beq s s' with | true => some (.ts l) | false => none
  | .t .nils => some (.ts [])
  | .sl b g i n =>
    match get b with
    | some (.arr _ s' _ gen l) => match Nat.beq g gen && Nat.beq s s' with | true => some (l.part i n) | false => none
    | _ => none
  | .emp => some (.ts [])
  | _ => none

noncomputable def nappend (tab : Tab) (ty : TypeId) (get : Nat → Option Blk) (hl : Nat) (a x : AV) (K : AV → HC → Option R) : Option R :=
  NOpt (tab ty) fun y =>
  match y.d with
  | .slice e => NOpt (tab e) fun z => NOpt z.zero fun zs => NOpt (nappended get z.size x) fun news =>
    NCk (Nat.ble 1 z.size && Nat.beq zs.length z.size)
    (match a with
    | .t .nils => NCk (fitsRow news.length z.bytes) (K (.sl hl 0 0 news.length) (.push (.arr e z.size true 0 news)))
    | .emp => NCk (fitsRow news.length z.bytes) (K (.sl hl 0 0 news.length) (.push (.arr e z.size false 0 news)))
    | .sl b g i n =>
      (match get b with
        | some (.arr e' s z' gen l) =>
          NCk (Nat.beq g gen && Nat.beq i 0 && Nat.beq e e' && Nat.beq s z.size) (NBr (Nat.beq n l.length) (NCk (fitsRow (n + news.length) z.bytes)
            (K (.sl b (gen + 2 - gen % 2) 0 (n + news.length)) (.set b (.arr e' s z' (gen + 2 - gen % 2) (l.app news)))))
            (NCk (Nat.ble 1 l.length && Nat.ble (n + news.length) l.length) (K (.sl b gen 0 (n + news.length)) (.set b (.arr e' s z' gen (l.put n news))))))
        | _ => none)
    | _ => none)
  | _ => none

noncomputable def nappendZ (tab : Tab) (ty : TypeId) (a x : AV) (get : Nat → Option Blk) (hl : Nat) (K : AV → HC → Option R) : Option R :=
  NOpt (tab ty) fun y =>
  match y.d with
  | .slice e => NOpt (tab e) fun z => NOpt z.zero fun zs =>
    (match a, x with
    | .t .nils, .t (.int k n) =>
      NCk (sameK k .i64 && decide (0 < n) && fitsRow n.toNat z.bytes && Nat.ble 1 z.size && Nat.beq zs.length z.size && zs.all T.one)
        (K (.sl hl 0 0 n.toNat) (.push (.arr e z.size true 0 (.ts (List.replicate n.toNat (mkElem z.size zs))))))
    | _, _ => none)
  | _ => none

noncomputable def ncap (tab : Tab) (ty : TypeId) (get : Nat → Option Blk) (x : AV) (K : AV → Option R) : Option R :=
  NOpt (tab ty) fun y =>
  match y.d, x with
  | .slice _, .t .nils => K (.t (.int .i64 0))
  | .slice _, .sl b g i n =>
    (match get b with
      | some (.arr _ s z gen l) => NCk (Nat.beq g gen) (NBr (z && Nat.beq l.length 0) (K (.t (.int .i64 0))) (NCk (Nat.beq (gen % 2) 1 && Nat.ble 1 s) (K (.t (.int .i64 ((l.length - i : Nat) : Int))))))
      | _ => none)
  | _, _ => none

noncomputable def ncopy (tab : Tab) (ty : TypeId) (a x : AV) (get : Nat → Option Blk) (K : AV → HC → Option R) : Option R :=
  NOpt (tab ty) fun y =>
  match y.d with
  | .slice e => NOpt (tab e) fun z =>
    (match a with
    | .sl b g i n =>
      (match get b with
        | some (.arr e' s z' gen l) => NOpt (nappended get z.size x) fun news =>
          NCk (Nat.beq g gen && Nat.beq s z.size && Nat.ble 1 z.size && Nat.ble 1 l.length) (NCk (Nat.ble news.length n) (K (.t (.int .i64 news.length)) (.set b (.arr e' s z' gen (l.put i news)))))
        | _ => none)
    | _ => none)
  | _ => none

noncomputable def nminmax (mx : Bool) (x y : AV) (K : AV → Option R) : Option R :=
  match x, y with
  | .t (.int k a), .t (.int k' b) => NCk (sameK k k') (K (.t (.int k (match mx with | true => max a b | false => min a b))))
  | _, _ => none

noncomputable def nnilCheck (get : Nat → Option Blk) (x : AV) (K : AV → Option R) : Option R :=
  match x with
  | .t (.iptr c) => K x
  | .ptr b g i o =>
    (match get b with
      | some (.box _) => K x
      | some (.arr _ _ _ gen _) => NCk (Nat.beq g gen) (K x)
      | _ => none)
  | .t (.fn (.func f) a b) => K x
  | .fn (.func f) a b => K x
  | _ => none

theorem ck_true' {p : Prop} : Ck true p = p := rfl
theorem opt_some' {α : Type} {a : α} {K : α → Prop} : Opt (some a) K = K a := rfl

abbrev gt (H : AH) : Nat → Option Blk := fun b => H[b]?

theorem nisNil_eq (H : AH) (x : AV) : nisNil (gt H) x = isNil H x := by cases x <;> rfl
theorem nlenA_eq (H : AH) (x : AV) : nlenA (gt H) x = lenA H x := by cases x <;> rfl
theorem nappended_eq (H : AH) (s : Nat) (x : AV) : nappended (gt H) s x = appended H s x := by cases x <;> rfl

theorem nint_ok {op : BinOp} {k k' : IntKind} {a b : Int} {K : T → Option R} {r : R} (h : nint op k a k' b K = some r) : ∃ v, K v = some r ∧ ∀ K' : T → Prop, K' v → xint op k a k' b K' := by
  unfold nint at h
  repeat' (first | (rw [nopt_iff] at h; obtain ⟨_, _, h⟩ := h) | (rw [nck_iff] at h; obtain ⟨_, h⟩ := h) | split at h)
  all_goals first | (cases h; done) | exact ⟨_, h, fun K' k => by unfold xint; repeat (first | exact k | exact trivial | refine opt_intro (by assumption) ?_ | refine ck_intro (by assumption) ?_ | rw [ck_true'] | rw [opt_some'] | simp only [*])⟩ | skip

theorem nstr_ok {op : BinOp} {a b : List UInt8} {K : T → Option R} {r : R} (h : nstr op a b K = some r) : ∃ v, K v = some r ∧ ∀ K' : T → Prop, K' v → xstr op a b K' := by
  unfold nstr at h
  repeat' (first | (rw [nopt_iff] at h; obtain ⟨_, _, h⟩ := h) | (rw [nck_iff] at h; obtain ⟨_, h⟩ := h) | split at h)
  all_goals first | (cases h; done) | exact ⟨_, h, fun K' k => by unfold xstr; repeat (first | exact k | exact trivial | refine opt_intro (by assumption) ?_ | refine ck_intro (by assumption) ?_ | rw [ck_true'] | rw [opt_some'] | simp only [*])⟩ | skip

theorem nun_ok {op : UnOp} {x : AV} {K : T → Option R} {r : R} (h : nun op x K = some r) : ∃ v, K v = some r ∧ ∀ K' : T → Prop, K' v → xun op x K' := by
  unfold nun at h
  repeat' (first | (rw [nopt_iff] at h; obtain ⟨_, _, h⟩ := h) | (rw [nck_iff] at h; obtain ⟨_, h⟩ := h) | split at h)
  all_goals first | (cases h; done) | exact ⟨_, h, fun K' k => by unfold xun; repeat (first | exact k | exact trivial | refine opt_intro (by assumption) ?_ | refine ck_intro (by assumption) ?_ | rw [ck_true'] | rw [opt_some'] | simp only [*])⟩ | skip

theorem npartA_ok {y : TyI} {cells : List AV} {o : Nat} {K : AV → Option R} {r : R} (h : npartA y cells o K = some r) : ∃ v, K v = some r ∧ ∀ K' : AV → Prop, K' v → partA y cells o K' := by
  unfold npartA at h
  repeat' (first | (rw [nopt_iff] at h; obtain ⟨_, _, h⟩ := h) | (rw [nck_iff] at h; obtain ⟨_, h⟩ := h) | split at h)
  all_goals first | (cases h; done) | exact ⟨_, h, fun K' k => by unfold partA; repeat (first | exact k | exact trivial | refine opt_intro (by assumption) ?_ | refine ck_intro (by assumption) ?_ | rw [ck_true'] | rw [opt_some'] | simp only [*])⟩ | skip

theorem npartT_ok {y : TyI} {cells : List T} {o : Nat} {K : T → Option R} {r : R} (h : npartT y cells o K = some r) : ∃ v, K v = some r ∧ ∀ K' : T → Prop, K' v → partT y cells o K' := by
  unfold npartT at h
  repeat' (first | (rw [nopt_iff] at h; obtain ⟨_, _, h⟩ := h) | (rw [nck_iff] at h; obtain ⟨_, h⟩ := h) | split at h)
  all_goals first | (cases h; done) | exact ⟨_, h, fun K' k => by unfold partT; repeat (first | exact k | exact trivial | refine opt_intro (by assumption) ?_ | refine ck_intro (by assumption) ?_ | rw [ck_true'] | rw [opt_some'] | simp only [*])⟩ | skip

theorem neq_ok {tab : Tab} {eqs : TypeId → Bool} (hE : ∀ t y, eqs t = true → tab t = some y → y.eqOK) {ty : TypeId} {H : AH} {x y : AV} {yc : Bool} {K : Bool → Option R} {r : R} (h : neq tab eqs ty (gt H) x y yc K = some r) : ∃ v, K v = some r ∧ ∀ K' : Bool → Prop, K' v → xeq tab ty H x y yc K' := by
  unfold neq at h
  rw [nopt_iff] at h
  obtain ⟨i, hi, h⟩ := h
  split at h
  · rw [nck_iff] at h
    exact ⟨_, h.2, fun K' k => by simp only [xeq, opt_iff, ck_iff]; exact ⟨i, hi, h.1, k⟩⟩
  · split at h
    · rename_i a b fs hd
      rw [nck_iff, nopt_iff] at h
      obtain ⟨h1, z, h2, h3⟩ := h
      exact ⟨_, h3, fun K' k => by simp only [xeq, opt_iff]; refine ⟨i, hi, ?_⟩; rw [hd]; exact ⟨hE _ _ h1 hi, ⟨z, h2, k⟩⟩⟩
    · cases h
  · rename_i n1 n2
    rw [nck_iff, nopt_iff, nisNil_eq] at h
    obtain ⟨h1, z, h2, h3⟩ := h
    refine ⟨_, h3, fun K' k => ?_⟩
    unfold xeq
    rw [opt_iff]
    refine ⟨i, hi, ?_⟩
    split
    · exact (n1 _ _ rfl rfl).elim
    · exact (n2 _ _ rfl rfl).elim
    · simp only [ck_iff, opt_iff]; exact ⟨h1, z, h2, k⟩

theorem nbin_ok {tab : Tab} {eqs : TypeId → Bool} (hE : ∀ t y, eqs t = true → tab t = some y → y.eqOK) {op : BinOp} {ty : TypeId} {H : AH} {x y : AV} {yc : Bool} {K : T → Option R} {r : R} (h : nbin tab eqs op ty (gt H) x y yc K = some r) : ∃ v, K v = some r ∧ ∀ K' : T → Prop, K' v → xbin tab op ty H x y yc K' := by
  unfold nbin at h
  split at h
  · obtain ⟨v, h1, h2⟩ := nint_ok h
    exact ⟨v, h1, h2⟩
  · obtain ⟨v, h1, h2⟩ := nstr_ok h
    exact ⟨v, h1, h2⟩
  · rename_i n1 n2
    split at h
    · obtain ⟨v, h1, h2⟩ := neq_ok hE h
      refine ⟨_, h1, fun K' k => ?_⟩
      unfold xbin
      split
      · exact (n1 _ _ _ _ rfl rfl).elim
      · exact (n2 _ _ rfl rfl).elim
      · exact h2 (fun b => K' (.bool b)) k
    · obtain ⟨v, h1, h2⟩ := neq_ok hE h
      refine ⟨_, h1, fun K' k => ?_⟩
      unfold xbin
      split
      · exact (n1 _ _ _ _ rfl rfl).elim
      · exact (n2 _ _ rfl rfl).elim
      · exact h2 (fun b => K' (.bool (!b))) k
    · cases h

theorem nload_ok {tab : Tab} {ty : TypeId} {H : AH} {a : AV} {K : AV → Option R} {r : R} (h : nload tab ty (gt H) a K = some r) : ∃ v, K v = some r ∧ ∀ K' : AV → Prop, K' v → xload tab ty H a K' := by
  unfold nload at h
  rw [nopt_iff] at h
  obtain ⟨y, hy, h⟩ := h
  split at h
  · obtain ⟨v, h1, h2⟩ := npartT_ok h
    exact ⟨_, h1, fun K' k => by unfold xload; refine opt_intro hy ?_; exact h2 (fun x => K' (.t x)) k⟩
  · rename_i b g i o
    split at h
    · rename_i cells hb
      obtain ⟨v, h1, h2⟩ := npartA_ok h
      exact ⟨_, h1, fun K' k => by unfold xload; refine opt_intro hy ?_; dsimp only; rw [show H[b]? = _ from hb]; exact h2 K' k⟩
    · rename_i gen l hb
      rw [nck_iff, nopt_iff] at h
      obtain ⟨hc, e, he, h⟩ := h
      obtain ⟨v, h1, h2⟩ := npartT_ok h
      exact ⟨_, h1, fun K' k => by unfold xload; refine opt_intro hy ?_; dsimp only; rw [show H[b]? = _ from hb]; simp only [ck_iff, opt_iff]; exact ⟨hc, e, he, h2 (fun x => K' (.t x)) k⟩⟩
    · rename_i gen l hb
      rw [nck_iff, nopt_iff] at h
      obtain ⟨hc, e, he, h⟩ := h
      obtain ⟨v, h1, h2⟩ := npartA_ok h
      exact ⟨_, h1, fun K' k => by unfold xload; refine opt_intro hy ?_; dsimp only; rw [show H[b]? = _ from hb]; simp only [ck_iff, opt_iff]; exact ⟨hc, e, he, h2 K' k⟩⟩
    · cases h
  · cases h

theorem nstore_ok {tab : Tab} {ty : TypeId} {H : AH} {a v : AV} {K : HC → Option R} {r : R} (h : nstore tab ty (gt H) a v K = some r) : ∃ c, K c = some r ∧ ∀ K' : AH → Prop, K' (c.on H) → xstore tab ty H a v K' := by
  rw [nstore_eq] at h
  unfold nstore0 at h
  repeat' (first | (rw [nopt_iff] at h; obtain ⟨_, _, h⟩ := h) | (rw [nck_iff] at h; obtain ⟨_, h⟩ := h) | split at h)
  all_goals first | (cases h; done) | exact ⟨_, h, fun K' k => by unfold xstore; repeat (first | exact k | exact trivial | refine opt_intro (by assumption) ?_ | refine ck_intro (by assumption) ?_ | rw [ck_true'] | rw [opt_some'] | simp only [*])⟩ | skip

theorem nfieldAddr_ok {tab : Tab} {ty : TypeId} {H : AH} {a : AV} {k : Nat} {K : AV → Option R} {r : R} (h : nfieldAddr tab ty (gt H) a k K = some r) : ∃ v, K v = some r ∧ ∀ K' : AV → Prop, K' v → (fun K' => xfieldAddr tab ty H a k K') K' := by
  unfold nfieldAddr at h
  repeat' (first | (rw [nopt_iff] at h; obtain ⟨_, _, h⟩ := h) | (rw [nck_iff] at h; obtain ⟨_, h⟩ := h) | split at h)
  all_goals first | (cases h; done) | exact ⟨_, h, fun K' k' => by unfold xfieldAddr; repeat (first | exact k | exact trivial | refine opt_intro (by assumption) ?_ | refine ck_intro (by assumption) ?_ | rw [ck_true'] | rw [opt_some'] | simp only [*])⟩ | skip

theorem nfield_ok {tab : Tab} {ty : TypeId} {a : AV} {k : Nat} {K : AV → Option R} {r : R} (h : nfield tab ty a k K = some r) : ∃ v, K v = some r ∧ ∀ K' : AV → Prop, K' v → (fun K' => xfield tab ty a k K') K' := by
  unfold nfield at h
  simp only [nopt_iff] at h
  obtain ⟨y, hy, f, hf, z, hz, h⟩ := h
  split at h
  · obtain ⟨v, h1, h2⟩ := npartT_ok h
    exact ⟨_, h1, fun K' k' => opt_intro hy (opt_intro hf (opt_intro hz (h2 (fun x => K' (.t x)) k')))⟩
  · obtain ⟨v, h1, h2⟩ := npartA_ok h
    exact ⟨_, h1, fun K' k' => opt_intro hy (opt_intro hf (opt_intro hz (h2 K' k')))⟩
  · cases h

theorem nindexAddr_ok {tab : Tab} {ty : TypeId} {H : AH} {a ix : AV} {K : AV → Option R} {r : R} (h : nindexAddr tab ty (gt H) a ix K = some r) : ∃ v, K v = some r ∧ ∀ K' : AV → Prop, K' v → xindexAddr tab ty H a ix K' := by
  unfold nindexAddr at h
  repeat' (first | (rw [nopt_iff] at h; obtain ⟨_, _, h⟩ := h) | (rw [nck_iff] at h; obtain ⟨_, h⟩ := h) | split at h)
  all_goals first | (cases h; done) | exact ⟨_, h, fun K' k => by unfold xindexAddr; repeat (first | exact k | exact trivial | refine opt_intro (by assumption) ?_ | refine ck_intro (by assumption) ?_ | rw [ck_true'] | rw [opt_some'] | simp only [*])⟩ | skip

theorem nindex_ok {tab : Tab} {ty : TypeId} {a ix : AV} {K : AV → Option R} {r : R} (h : nindex tab ty a ix K = some r) : ∃ v, K v = some r ∧ ∀ K' : AV → Prop, K' v → xindex tab ty a ix K' := by
  unfold nindex at h
  rw [nopt_iff] at h
  obtain ⟨y, hy, h⟩ := h
  split at h
  · split at h
    · rename_i hd
      rw [nck_iff, nopt_iff] at h
      obtain ⟨hc, c, hcc, h⟩ := h
      exact ⟨_, h, fun K' k => by unfold xindex; refine opt_intro hy ?_; rw [hd]; simp only [ck_iff, opt_iff]; exact ⟨hc, c, hcc, k⟩⟩
    · rename_i hd
      rw [nopt_iff] at h
      obtain ⟨z, hz, h⟩ := h
      rw [nck_iff] at h
      obtain ⟨v, h1, h2⟩ := npartT_ok h.2
      exact ⟨_, h1, fun K' k => by unfold xindex; refine opt_intro hy ?_; rw [hd]; simp only [ck_iff, opt_iff]; exact ⟨z, hz, h.1, h2 (fun x => K' (.t x)) k⟩⟩
    · rename_i hd
      rw [nopt_iff] at h
      obtain ⟨z, hz, h⟩ := h
      rw [nck_iff] at h
      obtain ⟨v, h1, h2⟩ := npartA_ok h.2
      exact ⟨_, h1, fun K' k => by unfold xindex; refine opt_intro hy ?_; rw [hd]; simp only [ck_iff, opt_iff]; exact ⟨z, hz, h.1, h2 K' k⟩⟩
    · cases h
  · cases h

theorem nbound_ok {q : Option AV} {d m : Nat} {K : Nat → Option R} {r : R} (h : nbound q d m K = some r) : ∃ v, K v = some r ∧ ∀ K' : Nat → Prop, K' v → xbound q d m K' := by
  unfold nbound at h
  repeat' (first | (rw [nopt_iff] at h; obtain ⟨_, _, h⟩ := h) | (rw [nck_iff] at h; obtain ⟨_, h⟩ := h) | split at h)
  all_goals first | (cases h; done) | exact ⟨_, h, fun K' k => by unfold xbound; repeat (first | exact k | exact trivial | refine opt_intro (by assumption) ?_ | refine ck_intro (by assumption) ?_ | rw [ck_true'] | rw [opt_some'] | simp only [*])⟩ | skip

theorem nslice_ok {tab : Tab} {ty : TypeId} {H : AH} {a : AV} {lo hi mx : Option AV} {K : AV → Option R} {r : R} (h : nslice tab ty (gt H) a lo hi mx K = some r) : ∃ v, K v = some r ∧ ∀ K' : AV → Prop, K' v → xslice tab ty H a lo hi mx K' := by
  unfold nslice at h
  rw [nopt_iff] at h
  obtain ⟨y, hy, h⟩ := h
  split at h
  · split at h
    · rename_i hd
      rw [nopt_iff] at h
      obtain ⟨z, hz, h⟩ := h
      split at h
      · exact ⟨_, h, fun K' k => by unfold xslice; refine opt_intro hy ?_; rw [hd]; simp only [opt_iff]; exact ⟨z, hz, k⟩⟩
      · exact ⟨_, h, fun K' k => by unfold xslice; refine opt_intro hy ?_; rw [hd]; simp only [opt_iff]; exact ⟨z, hz, k⟩⟩
      · exact ⟨_, h, fun K' k => by unfold xslice; refine opt_intro hy ?_; rw [hd]; simp only [opt_iff]; exact ⟨z, hz, k⟩⟩
      · split at h
        · rename_i hb
          rw [nck_iff, nbr_iff] at h
          obtain ⟨hc, ⟨hc2, h⟩ | ⟨hc2, h⟩⟩ := h
          · exact ⟨_, h, fun K' k => by unfold xslice; refine opt_intro hy ?_; rw [hd]; simp only [opt_iff]; refine ⟨z, hz, ?_⟩; rw [show H[_]? = _ from hb]; exact ck_intro hc (br_iff.2 (.inl ⟨hc2, k⟩))⟩
          · exact ⟨_, h, fun K' k => by unfold xslice; refine opt_intro hy ?_; rw [hd]; simp only [opt_iff]; refine ⟨z, hz, ?_⟩; rw [show H[_]? = _ from hb]; exact ck_intro hc (br_iff.2 (.inr ⟨hc2, k⟩))⟩
        · cases h
      · cases h
    · cases h
  · split at h
    · rename_i hd
      obtain ⟨v1, h, k1⟩ := nbound_ok h
      obtain ⟨v2, h, k2⟩ := nbound_ok h
      exact ⟨_, h, fun K' k => by unfold xslice; refine opt_intro hy ?_; rw [hd]; exact k1 _ (k2 _ k)⟩
    · rename_i hd
      rw [nopt_iff] at h
      obtain ⟨z, hz, h⟩ := h
      rw [nck_iff] at h
      obtain ⟨hc, h⟩ := h
      obtain ⟨v1, h, k1⟩ := nbound_ok h
      obtain ⟨v2, h, k2⟩ := nbound_ok h
      exact ⟨_, h, fun K' k => by unfold xslice; refine opt_intro hy ?_; rw [hd]; simp only [opt_iff, ck_iff]; exact ⟨z, hz, hc, k1 _ (k2 _ k)⟩⟩
    · rename_i hd
      rw [nopt_iff] at h
      obtain ⟨z, hz, h⟩ := h
      obtain ⟨v1, h, k1⟩ := nbound_ok h
      obtain ⟨v2, h, k2⟩ := nbound_ok h
      exact ⟨_, h, fun K' k => by unfold xslice; refine opt_intro hy ?_; rw [hd]; simp only [opt_iff]; exact ⟨z, hz, k1 _ (k2 (fun _ => K' _) k)⟩⟩
    · rename_i hd
      rw [nopt_iff] at h
      obtain ⟨z, hz, h⟩ := h
      split at h
      · rename_i hb
        rw [nck_iff] at h
        obtain ⟨hc, h⟩ := h
        obtain ⟨v1, h, k1⟩ := nbound_ok h
        obtain ⟨v2, h, k2⟩ := nbound_ok h
        exact ⟨_, h, fun K' k => by unfold xslice; refine opt_intro hy ?_; rw [hd]; simp only [opt_iff]; refine ⟨z, hz, ?_⟩; rw [show H[_]? = _ from hb]; simp only [ck_iff]; exact ⟨hc, k1 _ (k2 _ k)⟩⟩
      · cases h
    · cases h

theorem nfill_ok {place : Nat → Option (Nat × Nat)} : ∀ {l : List (Nat × AV)} {cells : List AV} {K : AV → Option R} {r : R}, nfill place cells l K = some r → ∃ v, K v = some r ∧ ∀ K' : AV → Prop, K' v → xfill place cells l K'
  | [], cells, K, r, h => ⟨_, h, fun K' k => k⟩
  | (k, v) :: l, cells, K, r, h => by
    unfold nfill at h
    rw [nopt_iff] at h
    obtain ⟨p, hp, h⟩ := h
    simp only [nck_iff, acells_eq, llen_eq, lset_eq, aone_eq, lall_eq] at h
    obtain ⟨hc1, hc2, hc3, h⟩ := h
    have hc : (Nat.beq v.cells.length p.2 && Nat.ble (p.1 + v.cells.length) cells.length && v.cells.all AV.one) = true := by
      rw [hc1, hc3, Nat.eq_of_beq_eq_true hc1]
      simp only [Bool.true_and, Bool.and_true]
      exact hc2
    obtain ⟨v', h1, h2⟩ := nfill_ok h
    exact ⟨v', h1, fun K' k' => by simp only [xfill, opt_iff, ck_iff]; exact ⟨p, hp, hc, h2 K' k'⟩⟩

theorem nbuild_ok {tab : Tab} {ty : TypeId} {parts : List (Nat × AV)} {K : AV → Option R} {r : R} (h : nbuild tab ty parts K = some r) : ∃ v, K v = some r ∧ ∀ K' : AV → Prop, K' v → xbuild tab ty parts K' := by
  unfold nbuild at h
  simp only [nopt_iff, nck_iff] at h
  obtain ⟨y, hy, zs, hz, hc, h⟩ := h
  split at h
  · rename_i hd
    rw [nck_iff] at h
    obtain ⟨v', h1, h2⟩ := nfill_ok h.2
    exact ⟨v', h1, fun K' k' => by simp only [xbuild, opt_iff, ck_iff]; refine ⟨y, hy, zs, hz, hc, ?_⟩; rw [hd]; simp only [ck_iff]; exact ⟨h.1, h2 K' k'⟩⟩
  · rename_i hd
    rw [nopt_iff] at h
    obtain ⟨z, hz2, h⟩ := h
    obtain ⟨v', h1, h2⟩ := nfill_ok h
    exact ⟨v', h1, fun K' k' => by simp only [xbuild, opt_iff, ck_iff]; refine ⟨y, hy, zs, hz, hc, ?_⟩; rw [hd]; simp only [opt_iff]; exact ⟨z, hz2, h2 K' k'⟩⟩
  · cases h

theorem nbuildSlice_ok {tab : Tab} {ty : TypeId} {len : Nat} {parts : List (Nat × AV)} {H : AH} {K : AV → HC → Option R} {r : R} (h : nbuildSlice tab ty len parts (gt H) H.length K = some r) : ∃ v c, K v c = some r ∧ ∀ K' : AV → AH → Prop, K' v (c.on H) → xbuildSlice tab ty len parts H K' := by
  unfold nbuildSlice at h
  repeat' (first | (rw [nopt_iff] at h; obtain ⟨_, _, h⟩ := h) | (rw [nck_iff] at h; obtain ⟨_, h⟩ := h) | split at h)
  all_goals first | (cases h; done) | exact ⟨_, _, h, fun K' k => by unfold xbuildSlice; repeat (first | exact k | exact trivial | refine opt_intro (by assumption) ?_ | refine ck_intro (by assumption) ?_ | rw [ck_true'] | rw [opt_some'] | simp only [*])⟩ | skip

theorem nconvert_ok {tab : Tab} {src dst : TypeId} {x : AV} {H : AH} {K : AV → Option R} {r : R} (h : nconvert tab src dst x (gt H) K = some r) : ∃ v, K v = some r ∧ ∀ K' : AV → Prop, K' v → xconvert tab src dst x H K' := by
  unfold nconvert at h
  simp only [nopt_iff] at h
  obtain ⟨y, hy, w, hw, h⟩ := h
  split at h
  · rename_i hd
    exact ⟨_, h, fun K' k => by unfold xconvert; refine opt_intro hy (opt_intro hw ?_); rw [hd]; exact k⟩
  · rename_i hd
    exact ⟨_, h, fun K' k => by unfold xconvert; refine opt_intro hy (opt_intro hw ?_); rw [hd]; exact k⟩
  · rename_i hd
    split at h
    · rename_i e hwd
      rw [nopt_iff] at h
      obtain ⟨z, hz, h⟩ := h
      split at h
      · rename_i hzd
        exact ⟨_, h, fun K' k => by unfold xconvert; refine opt_intro hy (opt_intro hw ?_); rw [hd]; simp only; rw [hwd]; simp only [opt_iff]; exact ⟨z, hz, by rw [hzd]; exact k⟩⟩
      · cases h
    · cases h
  · rename_i hd
    split at h
    · rename_i e hwd
      rw [nopt_iff] at h
      obtain ⟨z, hz, h⟩ := h
      split at h
      · rename_i hzd
        rw [nck_iff, nopt_iff] at h
        obtain ⟨hc, bs, hbs, h⟩ := h
        exact ⟨_, h, fun K' k => by unfold xconvert; refine opt_intro hy (opt_intro hw ?_); rw [hd]; simp only; rw [hwd]; simp only [opt_iff]; exact ⟨z, hz, by rw [hzd]; simp only [ck_iff]; exact ⟨hc, bs, bytesOf_ok hbs, k⟩⟩⟩
      · cases h
    · cases h
  · rename_i hd
    split at h
    · rename_i e hwd
      rw [nopt_iff] at h
      obtain ⟨z, hz, h⟩ := h
      split at h
      · rename_i hzd
        split at h
        · rename_i hb
          rw [nck_iff, nopt_iff] at h
          obtain ⟨hc, bs, hbs, h⟩ := h
          exact ⟨_, h, fun K' k => by unfold xconvert; refine opt_intro hy (opt_intro hw ?_); rw [hd]; simp only; rw [hwd]; simp only [opt_iff]; exact ⟨z, hz, by rw [hzd]; simp only; rw [show H[_]? = _ from hb]; simp only [ck_iff]; exact ⟨hc, bs, bytesOf_ok hbs, k⟩⟩⟩
        · cases h
      · cases h
    · cases h
  · cases h

theorem nmakeSlice_ok {tab : Tab} {ty : TypeId} {len cap : AV} {H : AH} {K : AV → HC → Option R} {r : R} (h : nmakeSlice tab ty len cap (gt H) H.length K = some r) : ∃ v c, K v c = some r ∧ ∀ K' : AV → AH → Prop, K' v (c.on H) → xmakeSlice tab ty len cap H K' := by
  unfold nmakeSlice at h
  rw [nopt_iff] at h
  obtain ⟨y, hy, h⟩ := h
  split at h
  · rename_i e k1 n k2 c he
    simp only [nopt_iff, nck_iff] at h
    obtain ⟨z, hz, zs, hzs, hc, h⟩ := h
    rw [nbr_iff] at h
    rcases h with ⟨h0, h⟩ | ⟨h0, h⟩
    · exact ⟨_, _, h, fun K' k => by unfold xmakeSlice; refine opt_intro hy ?_; rw [he]; simp only [opt_iff, ck_iff]; exact ⟨z, hz, zs, hzs, hc, br_iff.2 (.inl ⟨h0, k⟩)⟩⟩
    · exact ⟨_, _, h, fun K' k => by unfold xmakeSlice; refine opt_intro hy ?_; rw [he]; simp only [opt_iff, ck_iff]; exact ⟨z, hz, zs, hzs, hc, br_iff.2 (.inr ⟨h0, k⟩)⟩⟩
  · cases h

theorem nrange_ok {tab : Tab} {ty : TypeId} {x : AV} {H : AH} {K : AV → HC → Option R} {r : R} (h : nrange tab ty x (gt H) H.length K = some r) : ∃ v c, K v c = some r ∧ ∀ K' : AV → AH → Prop, K' v (c.on H) → xrange tab ty x H K' := by
  unfold nrange at h
  repeat' (first | (rw [nopt_iff] at h; obtain ⟨_, _, h⟩ := h) | (rw [nck_iff] at h; obtain ⟨_, h⟩ := h) | split at h)
  all_goals first | (cases h; done) | exact ⟨_, _, h, fun K' k => by unfold xrange; repeat (first | exact k | exact trivial | refine opt_intro (by assumption) ?_ | refine ck_intro (by assumption) ?_ | rw [ck_true'] | rw [opt_some'] | simp only [*])⟩ | skip

theorem nnext_ok {x : AV} {st : Bool} {H : AH} {K : AV → HC → Option R} {r : R} (h : nnext x st (gt H) K = some r) : ∃ v c, K v c = some r ∧ ∀ K' : AV → AH → Prop, K' v (c.on H) → xnext x st H K' := by
  unfold nnext at h
  split at h
  · rename_i b g i o
    split at h
    · rename_i s p hb
      rw [nck_iff] at h
      obtain ⟨hc, h⟩ := h
      split at h
      · rename_i c hs
        rw [nck_iff] at h
        refine ⟨_, _, h.2, fun K' k => ?_⟩
        unfold xnext
        simp only [show H[b]? = some (.iter s p) from hb, ck_iff, hs]
        exact ⟨hc, h.1, k⟩
      · rename_i hs
        refine ⟨_, _, h, fun K' k => ?_⟩
        unfold xnext
        simp only [show H[b]? = some (.iter s p) from hb, ck_iff, hs]
        exact ⟨hc, k⟩
    · cases h
  · cases h

theorem nextract_ok {x : AV} {i : Nat} {K : AV → Option R} {r : R} (h : nextract x i K = some r) : ∃ v, K v = some r ∧ ∀ K' : AV → Prop, K' v → xextract x i K' := by
  unfold nextract at h
  repeat' (first | (rw [nopt_iff] at h; obtain ⟨_, _, h⟩ := h) | (rw [nck_iff] at h; obtain ⟨_, h⟩ := h) | split at h)
  all_goals first | (cases h; done) | exact ⟨_, h, fun K' k => by unfold xextract; repeat (first | exact k | exact trivial | refine opt_intro (by assumption) ?_ | refine ck_intro (by assumption) ?_ | rw [ck_true'] | rw [opt_some'] | simp only [*])⟩ | skip

theorem npick_ok {c a b : AV} {K : AV → Option R} {r : R} (h : npick c a b K = some r) : ∃ v, K v = some r ∧ ∀ K' : AV → Prop, K' v → xpick c a b K' := by
  unfold npick at h
  split at h
  · rename_i c
    split at h
    · exact ⟨_, h, fun K' k => k⟩
    · rename_i n1
      rw [nbr_iff] at h
      obtain ⟨hc, h⟩ | ⟨hc, h⟩ := h
      · refine ⟨_, h, fun K' k => ?_⟩
        unfold xpick
        dsimp only
        split
        · exact (n1 _ _ rfl rfl).elim
        · exact br_iff.2 (.inl ⟨hc, k⟩)
      · refine ⟨_, h, fun K' k => ?_⟩
        unfold xpick
        dsimp only
        split
        · exact (n1 _ _ rfl rfl).elim
        · exact br_iff.2 (.inr ⟨hc, k⟩)
  · cases h

theorem nassign_ok {tab : Tab} {ty : TypeId} {x : AV} {H : AH} {K : AV → HC → Option R} {r : R} (h : nassign tab ty x (gt H) H.length K = some r) : ∃ v c, K v c = some r ∧ ∀ K' : AV → AH → Prop, K' v (c.on H) → xassign tab ty x H K' := by
  unfold nassign at h
  repeat' (first | (rw [nopt_iff] at h; obtain ⟨_, _, h⟩ := h) | (rw [nck_iff] at h; obtain ⟨_, h⟩ := h) | split at h)
  all_goals first | (cases h; done) | exact ⟨_, _, h, fun K' k => by unfold xassign; repeat (first | exact k | exact trivial | refine opt_intro (by assumption) ?_ | refine ck_intro (by assumption) ?_ | rw [ck_true'] | rw [opt_some'] | simp only [*])⟩ | skip

theorem nlen_ok {tab : Tab} {ty : TypeId} {H : AH} {x : AV} {K : AV → Option R} {r : R} (h : nlen tab ty (gt H) x K = some r) : ∃ v, K v = some r ∧ ∀ K' : AV → Prop, K' v → xlen tab ty H x K' := by
  unfold nlen at h
  rw [nopt_iff] at h
  obtain ⟨y, hy, h⟩ := h
  split at h
  · rename_i hd
    exact ⟨_, h, fun K' k => by unfold xlen; refine opt_intro hy ?_; rw [hd]; exact k⟩
  · rename_i n1
    rw [nck_iff, nopt_iff, nlenA_eq] at h
    obtain ⟨hc, n, hn, h⟩ := h
    refine ⟨_, h, fun K' k => ?_⟩
    unfold xlen; refine opt_intro hy ?_
    split
    · rename_i hd; exact (n1 _ _ hd).elim
    · simp only [ck_iff, opt_iff]; exact ⟨hc, n, hn, k⟩

theorem nappend_ok {tab : Tab} {ty : TypeId} {H : AH} {a x : AV} {K : AV → HC → Option R} {r : R} (h : nappend tab ty (gt H) H.length a x K = some r) : ∃ v c, K v c = some r ∧ ∀ K' : AV → AH → Prop, K' v (c.on H) → xappend tab ty H a x K' := by
  unfold nappend at h
  rw [nopt_iff] at h
  obtain ⟨y, hy, h⟩ := h
  split at h
  · rename_i hd
    simp only [nopt_iff, nck_iff, nappended_eq] at h
    obtain ⟨z, hz, zs, hzs, news, hn, hc, h⟩ := h
    split at h
    · rw [nck_iff] at h
      exact ⟨_, _, h.2, fun K' k => by unfold xappend; refine opt_intro hy ?_; rw [hd]; simp only [opt_iff, ck_iff]; exact ⟨z, hz, zs, hzs, news, hn, hc, h.1, k⟩⟩
    · rw [nck_iff] at h
      exact ⟨_, _, h.2, fun K' k => by unfold xappend; refine opt_intro hy ?_; rw [hd]; simp only [opt_iff, ck_iff]; exact ⟨z, hz, zs, hzs, news, hn, hc, h.1, k⟩⟩
    · split at h
      · rename_i hb
        rw [nck_iff, nbr_iff] at h
        obtain ⟨h1, ⟨h2, h⟩ | ⟨h2, h⟩⟩ := h
        · rw [nck_iff] at h
          exact ⟨_, _, h.2, fun K' k => by unfold xappend; refine opt_intro hy ?_; rw [hd]; simp only [opt_iff, ck_iff]; refine ⟨z, hz, zs, hzs, news, hn, hc, ?_⟩; rw [show H[_]? = _ from hb]; exact And.intro h1 (Or.inl ⟨Nat.eq_of_beq_eq_true h2, h.1, k⟩)⟩
        · rw [nck_iff] at h
          exact ⟨_, _, h.2, fun K' k => by unfold xappend; refine opt_intro hy ?_; rw [hd]; simp only [opt_iff, ck_iff]; refine ⟨z, hz, zs, hzs, news, hn, hc, ?_⟩; rw [show H[_]? = _ from hb]; exact And.intro h1 (Or.inr ⟨h.1, k⟩)⟩
      · cases h
    · cases h
  · cases h

theorem nappendZ_ok {tab : Tab} {ty : TypeId} {a x : AV} {H : AH} {K : AV → HC → Option R} {r : R} (h : nappendZ tab ty a x (gt H) H.length K = some r) : ∃ v c, K v c = some r ∧ ∀ K' : AV → AH → Prop, K' v (c.on H) → xappendZ tab ty a x H K' := by
  unfold nappendZ at h
  repeat' (first | (rw [nopt_iff] at h; obtain ⟨_, _, h⟩ := h) | (rw [nck_iff] at h; obtain ⟨_, h⟩ := h) | split at h)
  all_goals first | (cases h; done) | exact ⟨_, _, h, fun K' k => by unfold xappendZ; repeat (first | exact k | exact trivial | refine opt_intro (by assumption) ?_ | refine ck_intro (by assumption) ?_ | rw [ck_true'] | rw [opt_some'] | simp only [*])⟩ | skip

theorem ncap_ok {tab : Tab} {ty : TypeId} {H : AH} {x : AV} {K : AV → Option R} {r : R} (h : ncap tab ty (gt H) x K = some r) : ∃ v, K v = some r ∧ ∀ K' : AV → Prop, K' v → xcap tab ty H x K' := by
  unfold ncap at h
  rw [nopt_iff] at h
  obtain ⟨y, hy, h⟩ := h
  split at h
  · rename_i e he
    exact ⟨_, h, fun K' k => by unfold xcap; refine opt_intro hy ?_; rw [he]; exact k⟩
  · rename_i e b g i n he
    split at h
    · rename_i hb
      rw [nck_iff, nbr_iff] at h
      obtain ⟨hg, ⟨h0, h⟩ | ⟨h0, h⟩⟩ := h
      · exact ⟨_, h, fun K' k => by unfold xcap; refine opt_intro hy ?_; rw [he]; simp only [show H[b]? = _ from hb, ck_iff]; exact ⟨hg, br_iff.2 (.inl ⟨h0, k⟩)⟩⟩
      · rw [nck_iff] at h
        exact ⟨_, h.2, fun K' k => by unfold xcap; refine opt_intro hy ?_; rw [he]; simp only [show H[b]? = _ from hb, ck_iff]; exact ⟨hg, br_iff.2 (.inr ⟨h0, h.1, k⟩)⟩⟩
    · cases h
  · cases h

theorem ncopy_ok {tab : Tab} {ty : TypeId} {a x : AV} {H : AH} {K : AV → HC → Option R} {r : R} (h : ncopy tab ty a x (gt H) K = some r) : ∃ v c, K v c = some r ∧ ∀ K' : AV → AH → Prop, K' v (c.on H) → xcopy tab ty a x H K' := by
  unfold ncopy at h
  rw [nopt_iff] at h
  obtain ⟨y, hy, h⟩ := h
  split at h
  · rename_i hd
    rw [nopt_iff] at h
    obtain ⟨z, hz, h⟩ := h
    split at h
    · split at h
      · rename_i hb
        simp only [nopt_iff, nck_iff, nappended_eq] at h
        obtain ⟨news, hn, h1, h2, h⟩ := h
        exact ⟨_, _, h, fun K' k => by unfold xcopy; refine opt_intro hy ?_; rw [hd]; refine opt_intro hz ?_; dsimp only; rw [show H[_]? = _ from hb]; exact opt_intro hn (ck_intro h1 (ck_intro h2 k))⟩
      · cases h
    · cases h
  · cases h

theorem nminmax_ok {mx : Bool} {x y : AV} {K : AV → Option R} {r : R} (h : nminmax mx x y K = some r) : ∃ v, K v = some r ∧ ∀ K' : AV → Prop, K' v → xminmax mx x y K' := by
  unfold nminmax at h
  repeat' (first | (rw [nopt_iff] at h; obtain ⟨_, _, h⟩ := h) | (rw [nck_iff] at h; obtain ⟨_, h⟩ := h) | split at h)
  all_goals first | (cases h; done) | exact ⟨_, h, fun K' k => by unfold xminmax; repeat (first | exact k | exact trivial | refine opt_intro (by assumption) ?_ | refine ck_intro (by assumption) ?_ | rw [ck_true'] | rw [opt_some'] | simp only [*])⟩ | skip

theorem nnilCheck_ok {H : AH} {x : AV} {K : AV → Option R} {r : R} (h : nnilCheck (gt H) x K = some r) : ∃ v, K v = some r ∧ ∀ K' : AV → Prop, K' v → xnilCheck H x K' := by
  unfold nnilCheck at h
  repeat' (first | (rw [nopt_iff] at h; obtain ⟨_, _, h⟩ := h) | (rw [nck_iff] at h; obtain ⟨_, h⟩ := h) | split at h)
  all_goals first | (cases h; done) | exact ⟨_, h, fun K' k => by unfold xnilCheck; repeat (first | exact k | exact trivial | refine opt_intro (by assumption) ?_ | refine ck_intro (by assumption) ?_ | rw [ck_true'] | rw [opt_some'] | simp only [*])⟩ | skip

end

end Go.Proofs.YthpkehhghcpolaaDoor
