/-
  Operations of the fast engine, the frequent ones by roads of their own; regions as lists of operations whose operands lie on a stack.
-/
import Derived.Test.YthpkehhghcpolaaDoorQRun
namespace Go.Proofs.YthpkehhghcpolaaDoor
open Go.RowKit
set_option linter.unusedVariables false
set_option linter.unusedSimpArgs false

/-! ### Operands, put otherwise -/

def mapOp (m : Operand → Operand) : Op → Op
  | .move x => .move (m x)
  | .assign x => .assign (m x)
  | .pick c a b => .pick (m c) (m a) (m b)
  | .alloc e => .alloc e
  | .box e x => .box e (m x)
  | .build t parts => .build t (parts.toList.map fun p => (p.1, m p.2)).toArray
  | .buildSlice t n parts => .buildSlice t n (parts.toList.map fun p => (p.1, m p.2)).toArray
  | .load t a => .load t (m a)
  | .store t a x => .store t (m a) (m x)
  | .nilCheck x => .nilCheck (m x)
  | .binOp op t x y u => .binOp op t (m x) (m y) u
  | .unOp op t x => .unOp op t (m x)
  | .convert s d x => .convert s d (m x)
  | .makeInterface t x => .makeInterface t (m x)
  | .makeFunc f a b => .makeFunc f (a.toList.map m).toArray (b.toList.map m).toArray
  | .makeSlice t l c => .makeSlice t (m l) (m c)
  | .slice t x lo hi mx => .slice t (m x) (lo.map m) (hi.map m) (mx.map m)
  | .fieldAddr t x k => .fieldAddr t (m x) k
  | .field t x k => .field t (m x) k
  | .indexAddr t x i => .indexAddr t (m x) (m i)
  | .index t x i => .index t (m x) (m i)
  | .extract x i => .extract (m x) i
  | .call c => .call ⟨(match c.callee with | .value f => .value (m f) | q => q), (c.args.toList.map m).toArray, c.argTypes⟩
  | .range t x => .range t (m x)
  | .next x st => .next (m x) st
  | o => .ready 0

def opnds : Op → List Operand
  | .move x => [x]
  | .assign x => [x]
  | .pick c a b => [c, a, b]
  | .box _ x => [x]
  | .build _ parts => parts.toList.map (·.2)
  | .buildSlice _ _ parts => parts.toList.map (·.2)
  | .load _ a => [a]
  | .store _ a x => [a, x]
  | .nilCheck x => [x]
  | .binOp _ _ x y _ => [x, y]
  | .unOp _ _ x => [x]
  | .convert _ _ x => [x]
  | .makeInterface _ x => [x]
  | .makeFunc _ a b => a.toList ++ b.toList
  | .makeSlice _ l c => [l, c]
  | .slice _ x lo hi mx => x :: (lo.toList ++ (hi.toList ++ mx.toList))
  | .fieldAddr _ x _ => [x]
  | .field _ x _ => [x]
  | .indexAddr _ x i => [x, i]
  | .index _ x i => [x, i]
  | .extract x _ => [x]
  | .range _ x => [x]
  | .next x _ => [x]
  | .call c => (match c.callee with | .value f => [f] | _ => []) ++ c.args.toList
  | _ => []

section
variable {R : Type} {tab : Tab} {eqs : TypeId → Bool} {call : CallN}

theorem optmap_congr {m : Operand → Operand} {ev ev' : Operand → AV} {x : Option Operand} (h : ∀ y ∈ x.toList, ev (m y) = ev' y) : (x.map m).map ev = x.map ev' := by
  cases x with
  | none => rfl
  | some y => exact congrArg some (h y (by simp))

theorem gop_map {m : Operand → Operand} {ev ev' : Operand → AV} {op : Op} (h : ∀ x ∈ opnds op, ev (m x) = ev' x) (hc : ∀ x, isConst (m x) = isConst x) (ty : TypeId) (s : NH) (K : AV → NH → Option R) :
    gop tab eqs call (mapOp m op) ty ev s K = gop tab eqs call op ty ev' s K := by
  cases op
  case build t parts =>
    simp only [mapOp, gop, List.map_map]
    refine congrArg (fun l => nbuild tab t l _) (List.map_congr_left fun p hp => ?_)
    exact congrArg (Prod.mk p.1) (h p.2 (List.mem_map.2 ⟨p, hp, rfl⟩))
  case buildSlice t n parts =>
    simp only [mapOp, gop, List.map_map]
    refine congrArg (fun l => nbuildSlice tab t n l _ _ _) (List.map_congr_left fun p hp => ?_)
    exact congrArg (Prod.mk p.1) (h p.2 (List.mem_map.2 ⟨p, hp, rfl⟩))
  case makeFunc f a b =>
    simp only [mapOp, gop, List.map_map]
    rw [List.map_congr_left (f := ev ∘ m) (g := ev') (l := a.toList) fun x hx => h x (by simp only [opnds, List.mem_append]; exact .inl hx),
      List.map_congr_left (f := ev ∘ m) (g := ev') (l := b.toList) fun x hx => h x (by simp only [opnds, List.mem_append]; exact .inr hx)]
  case slice t x lo hi mx =>
    simp only [mapOp, gop]
    rw [h x (by simp [opnds]), optmap_congr (x := lo) fun y hy => h y (by simp only [opnds, List.mem_cons, List.mem_append]; exact .inr (.inl hy)),
      optmap_congr (x := hi) fun y hy => h y (by simp only [opnds, List.mem_cons, List.mem_append]; exact .inr (.inr (.inl hy))),
      optmap_congr (x := mx) fun y hy => h y (by simp only [opnds, List.mem_cons, List.mem_append]; exact .inr (.inr (.inr hy)))]
  case call c =>
    obtain ⟨callee, args, tys⟩ := c
    have ha : args.toList.map (ev ∘ m) = args.toList.map ev' := List.map_congr_left fun x hx => h x (by simp only [opnds, List.mem_append]; exact .inr hx)
    simp only [mapOp, gop]
    cases callee with
    | value f =>
      simp only [gcl, List.map_map]
      rw [h f (by simp [opnds]), ha]
    | invoke r s => rfl
    | builtin b =>
      simp only [gcl]
      generalize hl : args.toList = l at *
      generalize tys.toList = tl
      rcases l with _ | ⟨x, _ | ⟨y, _ | ⟨z, q⟩⟩⟩
      · rcases tl with _ | ⟨t, _ | ⟨u, _ | ⟨v, q2⟩⟩⟩ <;> cases b <;> rfl
      · rw [show ([x].map m) = [m x] from rfl]
        have hx : ev (m x) = ev' x := h x (by simp [opnds, hl])
        rcases tl with _ | ⟨t, _ | ⟨u, _ | ⟨v, q2⟩⟩⟩ <;> cases b <;> first | rfl | simp only [hx]
      · rw [show ([x, y].map m) = [m x, m y] from rfl]
        have hx : ev (m x) = ev' x := h x (by simp [opnds, hl])
        have hy : ev (m y) = ev' y := h y (by simp [opnds, hl])
        rcases tl with _ | ⟨t, _ | ⟨u, _ | ⟨v, q2⟩⟩⟩ <;> cases b <;> first | rfl | simp only [hx, hy]
      · rw [show ((x :: y :: z :: q).map m) = m x :: m y :: m z :: q.map m from rfl]
        rcases tl with _ | ⟨t, _ | ⟨u, _ | ⟨v, q2⟩⟩⟩ <;> cases b <;> rfl
  case binOp op t x y u =>
    simp only [mapOp, gop]
    rw [h x (by simp [opnds]), h y (by simp [opnds]), hc]
  all_goals first
    | rfl
    | (simp only [mapOp, gop]; simp only [opnds, List.mem_cons, List.not_mem_nil, or_false, forall_eq_or_imp, forall_eq] at h; simp only [h])

theorem gfin_no (h : NH) (K : AV → NH → Option R) (v : AV) : gfin h K v .no = K v h := by
  unfold gfin
  rw [fW_eq]
  rfl

/-! ### The frequent ones -/

/-- A part of a struct's cells. -/
noncomputable def qpart {α : Type} (cs : List α) (o n : Nat) (K : List α → Option R) : Option R :=
  @Bool.rec (fun _ => Option R) (fL ((cs.drop o).take n) K) (@Bool.rec (fun _ => Option R) (fL ((cs.drop o).take n) K) (K cs) (Nat.beq n cs.length)) (Nat.beq o 0)

theorem qpart_eq {α : Type} (cs : List α) (o n : Nat) (K : List α → Option R) : qpart cs o n K = K ((cs.drop o).take n) := by
  unfold qpart
  cases h : Nat.beq o 0 with
  | false => exact fL_eq _ _
  | true =>
    cases h2 : Nat.beq n cs.length with
    | false => exact fL_eq _ _
    | true =>
      rw [Nat.eq_of_beq_eq_true h, Nat.eq_of_beq_eq_true h2]
      simp

noncomputable def qpartA (y : TyI) (cs : List AV) (o : Nat) (K : AV → Option R) : Option R :=
  @Bool.rec (fun _ => Option R) (qget cs o K) (NCk (Nat.ble (o + y.size) cs.length) (qpart cs o y.size fun l => K (.agg l))) y.isAgg

theorem qpartA_eq (y : TyI) (cs : List AV) (o : Nat) (K : AV → Option R) : qpartA y cs o K = npartA y cs o K := by
  unfold qpartA npartA
  cases y.isAgg with
  | true => exact congrArg (NCk _) (qpart_eq _ _ _ _)
  | false => exact qget_eq _ _ _

noncomputable def qpartT (y : TyI) (cs : List T) (o : Nat) (K : T → Option R) : Option R :=
  @Bool.rec (fun _ => Option R) (qget cs o K) (NCk (Nat.ble (o + y.size) cs.length) (qpart cs o y.size fun l => K (.agg l))) y.isAgg

theorem qpartT_eq (y : TyI) (cs : List T) (o : Nat) (K : T → Option R) : qpartT y cs o K = npartT y cs o K := by
  unfold qpartT npartT
  cases y.isAgg with
  | true => exact congrArg (NCk _) (qpart_eq _ _ _ _)
  | false => exact qget_eq _ _ _

noncomputable def tcells : T → List T :=
  @T.rec (fun _ => List T) (fun _ => Unit) (fun b => [.bool b]) (fun k n => [.int k n]) (fun s => [.str s]) [.nilp] [.nils] [.nilf] [.nili] (fun cs _ => [.iptr cs]) (fun s l _ => [.vec s l]) (fun cs _ => cs) (fun f a b _ _ => [.fn f a b]) (fun t v _ => [.ifc t v]) () (fun _ _ _ _ => ())
theorem tcells_eq (x : T) : tcells x = x.cells := by cases x <;> rfl

noncomputable def oTs (x : Option Blk) (K : Nat → List T → Option R) (d : Option R) : Option R :=
  @Option.rec Blk (fun _ => (Nat → List T → Option R) → Option R → Option R) (fun _ d => d)
    (fun b => @Blk.rec (fun _ => (Nat → List T → Option R) → Option R → Option R) (fun _ d => d) (fun _ _ d => d)
      (fun _ _ _ g l K d => @Sq.rec (fun _ => Nat → (Nat → List T → Option R) → Option R → Option R) (fun l g K _ => K g l) (fun _ _ _ d => d) l g K d) (fun _ _ _ d => d) b) x K d
theorem oTs_cases (x : Option Blk) (K : Nat → List T → Option R) (d : Option R) : (∃ e s z g l, x = some (.arr e s z g (.ts l)) ∧ oTs x K d = K g l) ∨ oTs x K d = d := by
  rcases x with _ | (_ | _ | ⟨_, _, _, _, (_ | _)⟩ | _) <;> first | exact .inl ⟨_, _, _, _, _, rfl, rfl⟩ | exact .inr rfl

noncomputable def qload (tab : Tab) (ty : TypeId) (get : Nat → Option Blk) (a : AV) (K : AV → Option R) : Option R :=
  aPtr a (fun b g i o => oBox (get b) (fun cells => NOpt (tab ty) fun y => qpartA y cells o K)
    (oTs (get b) (fun gen l => NOpt (tab ty) fun y => NCk (Nat.beq g gen) (qget l i fun e => qpartT y (tcells e) o fun x => K (.t x))) (nload tab ty get a K))) (nload tab ty get a K)

theorem qload_eq (tab : Tab) (ty : TypeId) (get : Nat → Option Blk) (a : AV) (K : AV → Option R) : qload tab ty get a K = nload tab ty get a K := by
  unfold qload
  rcases aPtr_cases a (fun b g i o => oBox (get b) (fun cells => NOpt (tab ty) fun y => qpartA y cells o K)
    (oTs (get b) (fun gen l => NOpt (tab ty) fun y => NCk (Nat.beq g gen) (qget l i fun e => qpartT y (tcells e) o fun x => K (.t x))) (nload tab ty get a K))) (nload tab ty get a K) with ⟨b, g, i, o, ha, h⟩ | h
  · rw [h]
    rcases oBox_cases (get b) (fun cells => NOpt (tab ty) fun y => qpartA y cells o K) (oTs (get b) (fun gen l => NOpt (tab ty) fun y => NCk (Nat.beq g gen) (qget l i fun e => qpartT y (tcells e) o fun x => K (.t x))) (nload tab ty get a K)) with ⟨cells, hb, h⟩ | h
    · rw [h, ha]
      unfold nload
      refine congrArg (NOpt _) (funext fun y => ?_)
      simp only [hb, qpartA_eq]
    · rw [h]
      rcases oTs_cases (get b) (fun gen l => NOpt (tab ty) fun y => NCk (Nat.beq g gen) (qget l i fun e => qpartT y (tcells e) o fun x => K (.t x))) (nload tab ty get a K) with ⟨e, s, z, gen, l, hb, h⟩ | h
      · rw [h, ha]
        unfold nload
        refine congrArg (NOpt _) (funext fun y => ?_)
        simp only [hb, qget_eq, qpartT_eq, tcells_eq]
      · rw [h]
  · rw [h]

noncomputable def qfieldAddr (tab : Tab) (t : TypeId) (a : AV) (k : Nat) (h : NH) (K : AV → NH → Option R) (d : Option R) : Option R :=
  aPtr a (fun b g i o => oBox (h.hp.get b) (fun _ => NOpt (tab t) fun y => NOpt (fieldOf y k) fun f => NOpt (tab f.type) fun z => NCk (Nat.ble 1 z.size) (fN (Nat.add o f.offset) fun o => K (.ptr b g i o) h)) d) d

theorem qfieldAddr_eq (tab : Tab) (t : TypeId) (a : AV) (k : Nat) (h : NH) (K : AV → NH → Option R) : qfieldAddr tab t a k h K (nfieldAddr tab t h.hp.get a k fun v => K v h) = nfieldAddr tab t h.hp.get a k fun v => K v h := by
  unfold qfieldAddr
  rcases aPtr_cases a (fun b g i o => oBox (h.hp.get b) (fun _ => NOpt (tab t) fun y => NOpt (fieldOf y k) fun f => NOpt (tab f.type) fun z => NCk (Nat.ble 1 z.size) (fN (Nat.add o f.offset) fun o => K (.ptr b g i o) h)) (nfieldAddr tab t h.hp.get a k fun v => K v h)) (nfieldAddr tab t h.hp.get a k fun v => K v h) with ⟨b, g, i, o, ha, e⟩ | e
  · rw [e]
    rcases oBox_cases (h.hp.get b) (fun _ => NOpt (tab t) fun y => NOpt (fieldOf y k) fun f => NOpt (tab f.type) fun z => NCk (Nat.ble 1 z.size) (fN (Nat.add o f.offset) fun o => K (.ptr b g i o) h)) (nfieldAddr tab t h.hp.get a k fun v => K v h) with ⟨cells, hb, e⟩ | e
    · rw [e, ha]
      unfold nfieldAddr
      refine congrArg (NOpt _) (funext fun y => congrArg (NOpt _) (funext fun f => congrArg (NOpt _) (funext fun z => congrArg (NCk _) ?_)))
      simp only [hb, fN_eq]
      rfl
    · rw [e]
  · rw [e]

noncomputable def qfield (tab : Tab) (ty : TypeId) (a : AV) (k : Nat) (K : AV → Option R) : Option R :=
  NOpt (tab ty) fun y => NOpt (fieldOf y k) fun f => NOpt (tab f.type) fun z =>
  match a with
  | .t (.agg cs) => qpartT z cs f.offset fun x => K (.t x)
  | .agg cs => qpartA z cs f.offset K
  | _ => none

theorem qfield_eq (tab : Tab) (ty : TypeId) (a : AV) (k : Nat) (K : AV → Option R) : qfield tab ty a k K = nfield tab ty a k K := by
  unfold qfield nfield
  refine congrArg (NOpt _) (funext fun y => congrArg (NOpt _) (funext fun f => congrArg (NOpt _) (funext fun z => ?_)))
  cases a with
  | t x => cases x <;> first | rfl | simp only [qpartT_eq]
  | agg cs => exact qpartA_eq _ _ _ _
  | _ => rfl

noncomputable def qextract (x : AV) (i : Nat) (K : AV → Option R) : Option R :=
  match x with
  | .tup vs => qget vs i K
  | _ => none

theorem qextract_eq (x : AV) (i : Nat) (K : AV → Option R) : qextract x i K = nextract x i K := by
  unfold qextract nextract
  cases x <;> first | rfl | exact qget_eq _ _ _

noncomputable def qindex (tab : Tab) (ty : TypeId) (a : AV) (ix : AV) (K : AV → Option R) (d : Option R) : Option R :=
  aStr a (fun s => aInt ix (fun _ i => NOpt (tab ty) fun y => match y.d with | .string => qidxS s i K | _ => none) d) d

theorem qindex_ok {tab : Tab} {ty : TypeId} {a ix : AV} {K : AV → Option R} : qindex tab ty a ix K (nindex tab ty a ix K) = nindex tab ty a ix K := by
  unfold qindex
  rcases aStr_cases a (fun s => aInt ix (fun _ i => NOpt (tab ty) fun y => match y.d with | .string => qidxS s i K | _ => none) (nindex tab ty a ix K)) (nindex tab ty a ix K) with ⟨s, ha, h⟩ | ⟨_, h⟩
  · rw [h]
    rcases aInt_cases ix (fun _ i => NOpt (tab ty) fun y => match y.d with | .string => qidxS s i K | _ => none) (nindex tab ty a ix K) with ⟨k, i, hi, h⟩ | ⟨_, h⟩
    · rw [h, ha, hi]
      unfold nindex
      refine congrArg (NOpt _) (funext fun y => ?_)
      dsimp only
      generalize y.d = d
      cases d <;> first | rfl | exact qidxS_eq s i K
    · rw [h]
  · rw [h]

/-- Forced, but for what is known to be. -/
noncomputable def gsl (h : NH) (K : AV → NH → Option R) (v : AV) : Option R :=
  match v with
  | .ptr b g i o => fN b fun b => fN g fun g => fN i fun i => fN o fun o => K (.ptr b g i o) h
  | .sl b g i n => fN b fun b => fN g fun g => fN i fun i => fN n fun n => K (.sl b g i n) h
  | .t (.iptr cs) => fL cs fun cs => K (.t (.iptr cs)) h
  | v => gfin h K v .no

theorem gsl_eq (h : NH) (K : AV → NH → Option R) (v : AV) : gsl h K v = K v h := by
  unfold gsl
  split <;> simp only [fN_eq, fL_eq, gfin_no]

inductive QO where
  | gen (op : Op) (ty : TypeId)
  | mv (x : Operand)
  | bin (op : BinOp) (t : TypeId) (x y : Operand) (u : TypeId)
  | pick (c a b : Operand)
  | load (t : TypeId) (a : Operand)
  | field (t : TypeId) (x : Operand) (k : Nat)
  | extract (x : Operand) (i : Nat)
  | index (t : TypeId) (x i : Operand)
  | fieldAddr (t : TypeId) (x : Operand) (k : Nat)
  | indexAddr (t : TypeId) (x i : Operand)
  | callF (f : FuncId) (args : List Operand)

def QO.of (ty : TypeId) : Op → QO
  | .move x => .mv x
  | .binOp op t x y u => .bin op t x y u
  | .pick c a b => .pick c a b
  | .load t a => .load t a
  | .field t x k => .field t x k
  | .extract x i => .extract x i
  | .index t x i => .index t x i
  | .fieldAddr t x k => .fieldAddr t x k
  | .indexAddr t x i => .indexAddr t x i
  | .call c => (match c.callee with | .value (.func f) => .callF f c.args.toList | _ => .gen (.call c) ty)
  | o => .gen o ty

noncomputable def oGen (tab : Tab) (eqs : TypeId → Bool) (call : CallN) (op : Op) (ty : TypeId) (st : List AV) (env : List (Nat × AV)) (h : NH) (K : AV → NH → Option R) : Option R := gopF op tab eqs call ty (qev st env) h K
noncomputable def oMv (x : Operand) (st : List AV) (env : List (Nat × AV)) (h : NH) (K : AV → NH → Option R) : Option R := qrd x st env fun v => K v h
noncomputable def oBin (tab : Tab) (eqs : TypeId → Bool) (call : CallN) (op : BinOp) (t : TypeId) (x y : Operand) (u : TypeId) (st : List AV) (env : List (Nat × AV)) (h : NH) (K : AV → NH → Option R) : Option R :=
  qrd x st env fun a => qrd y st env fun b =>
  aInt a (fun k m => aInt b (fun k' n => qint op k m k' n fun v => K (.t v) h) (oGen tab eqs call (.binOp op t x y u) 0 st env h K))
    (aStr a (fun s => aStr b (fun s' => qstr op s s' fun v => K (.t v) h) (oGen tab eqs call (.binOp op t x y u) 0 st env h K)) (oGen tab eqs call (.binOp op t x y u) 0 st env h K))
noncomputable def oPick (c a b : Operand) (st : List AV) (env : List (Nat × AV)) (h : NH) (K : AV → NH → Option R) : Option R :=
  qrd c st env fun c => aBool c (fun c => @Bool.rec (fun _ => Option R) (qrd b st env fun v => K v h) (qrd a st env fun v => K v h) c) none
noncomputable def oLoad (tab : Tab) (t : TypeId) (a : Operand) (st : List AV) (env : List (Nat × AV)) (h : NH) (K : AV → NH → Option R) : Option R := qrd a st env fun a => qload tab t h.hp.get a fun v => K v h
noncomputable def oField (tab : Tab) (t : TypeId) (x : Operand) (k : Nat) (st : List AV) (env : List (Nat × AV)) (h : NH) (K : AV → NH → Option R) : Option R := qrd x st env fun a => qfield tab t a k fun v => K v h
noncomputable def oExtract (x : Operand) (i : Nat) (st : List AV) (env : List (Nat × AV)) (h : NH) (K : AV → NH → Option R) : Option R := qrd x st env fun a => qextract a i fun v => K v h
noncomputable def oIndex (tab : Tab) (t : TypeId) (x i : Operand) (st : List AV) (env : List (Nat × AV)) (h : NH) (K : AV → NH → Option R) : Option R :=
  qrd x st env fun a => qrd i st env fun ix => qindex tab t a ix (fun v => K v h) (nindex tab t a ix fun v => gfin h K v .no)
noncomputable def oFieldAddr (tab : Tab) (t : TypeId) (x : Operand) (k : Nat) (st : List AV) (env : List (Nat × AV)) (h : NH) (K : AV → NH → Option R) : Option R := qrd x st env fun a => qfieldAddr tab t a k h K (nfieldAddr tab t h.hp.get a k fun v => gsl h K v)
noncomputable def oIndexAddr (tab : Tab) (t : TypeId) (x i : Operand) (st : List AV) (env : List (Nat × AV)) (h : NH) (K : AV → NH → Option R) : Option R := qrd x st env fun a => qrd i st env fun ix => nindexAddr tab t h.hp.get a ix fun v => gsl h K v
noncomputable def oCallF (call : CallN) (f : FuncId) (args : List Operand) (st : List AV) (env : List (Nat × AV)) (h : NH) (K : AV → NH → Option R) : Option R := qrds args st env fun args => gdo call f args h K

noncomputable def oev (tab : Tab) (eqs : TypeId → Bool) (call : CallN) : QO → List AV → List (Nat × AV) → NH → (AV → NH → Option R) → Option R :=
  @QO.rec (fun _ => List AV → List (Nat × AV) → NH → (AV → NH → Option R) → Option R) (oGen tab eqs call) oMv (oBin tab eqs call) oPick (oLoad tab) (oField tab) oExtract (oIndex tab) (oFieldAddr tab) (oIndexAddr tab) (oCallF call)

theorem oev_ok {op : Op} {ty : TypeId} {st : List AV} {env : List (Nat × AV)} {h : NH} {K : AV → NH → Option R} {r : R} (hh : oev tab eqs call (QO.of ty op) st env h K = some r) : gop tab eqs call op ty (qev st env) h K = some r := by
  unfold QO.of at hh
  split at hh
  · have hh : qrd _ st env (fun v => K v h) = some r := hh
    rw [qrd_eq] at hh
    simp only [gop, gfin_no]
    exact hh
  · rename_i op t x y u
    have hh : oBin tab eqs call op t x y u st env h K = some r := hh
    unfold oBin at hh
    rw [qrd_eq, qrd_eq] at hh
    simp only [gop, gfin_no]
    have hg : oGen tab eqs call (.binOp op t x y u) 0 st env h K = nbin tab eqs op t h.hp.get (qev st env x) (qev st env y) (isConst y) fun v => K (.t v) h := by unfold oGen; rw [gopF_eq]; simp only [gop, gfin_no]
    rw [hg] at hh
    rcases aInt_cases (qev st env x) (fun k m => aInt (qev st env y) (fun k' n => qint op k m k' n fun v => K (.t v) h) (nbin tab eqs op t h.hp.get (qev st env x) (qev st env y) (isConst y) fun v => K (.t v) h))
      (aStr (qev st env x) (fun s => aStr (qev st env y) (fun s' => qstr op s s' fun v => K (.t v) h) (nbin tab eqs op t h.hp.get (qev st env x) (qev st env y) (isConst y) fun v => K (.t v) h)) (nbin tab eqs op t h.hp.get (qev st env x) (qev st env y) (isConst y) fun v => K (.t v) h)) with ⟨k, m, hx, e⟩ | ⟨_, e⟩
    · rw [e] at hh
      rcases aInt_cases (qev st env y) (fun k' n => qint op k m k' n fun v => K (.t v) h) (nbin tab eqs op t h.hp.get (qev st env x) (qev st env y) (isConst y) fun v => K (.t v) h) with ⟨k', n, hy, e⟩ | ⟨_, e⟩
      · rw [e, qint_eq] at hh
        rw [hx, hy]
        exact hh
      · rw [e] at hh; exact hh
    · rw [e] at hh
      rcases aStr_cases (qev st env x) (fun s => aStr (qev st env y) (fun s' => qstr op s s' fun v => K (.t v) h) (nbin tab eqs op t h.hp.get (qev st env x) (qev st env y) (isConst y) fun v => K (.t v) h)) (nbin tab eqs op t h.hp.get (qev st env x) (qev st env y) (isConst y) fun v => K (.t v) h) with ⟨s, hx, e⟩ | ⟨_, e⟩
      · rw [e] at hh
        rcases aStr_cases (qev st env y) (fun s' => qstr op s s' fun v => K (.t v) h) (nbin tab eqs op t h.hp.get (qev st env x) (qev st env y) (isConst y) fun v => K (.t v) h) with ⟨s', hy, e⟩ | ⟨_, e⟩
        · rw [e, qstr_eq] at hh
          rw [hx, hy]
          exact hh
        · rw [e] at hh; exact hh
      · rw [e] at hh; exact hh
  · rename_i c a b
    have hh : oPick c a b st env h K = some r := hh
    unfold oPick at hh
    rw [qrd_eq] at hh
    simp only [gop, gfin_no]
    rcases aBool_cases (qev st env c) (fun c => @Bool.rec (fun _ => Option R) (qrd b st env fun v => K v h) (qrd a st env fun v => K v h) c) none with ⟨q, hc, e⟩ | ⟨_, e⟩
    · rw [e] at hh
      rw [hc]
      unfold npick
      simp only
      cases q with
      | true =>
        have hh : qrd a st env (fun v => K v h) = some r := hh
        rw [qrd_eq] at hh
        split
        · rename_i h1 h2; rw [h1] at hh; exact hh
        · exact hh
      | false =>
        have hh : qrd b st env (fun v => K v h) = some r := hh
        rw [qrd_eq] at hh
        split
        · rename_i h1 h2; rw [h2] at hh; exact hh
        · exact hh
    · rw [e] at hh; cases hh
  · rename_i t a
    have hh : oLoad tab t a st env h K = some r := hh
    unfold oLoad at hh
    rw [qrd_eq, qload_eq] at hh
    simp only [gop, gfin_no]
    exact hh
  · rename_i t x k
    have hh : oField tab t x k st env h K = some r := hh
    unfold oField at hh
    rw [qrd_eq, qfield_eq] at hh
    simp only [gop, gfin_no]
    exact hh
  · rename_i x i
    have hh : oExtract x i st env h K = some r := hh
    unfold oExtract at hh
    rw [qrd_eq, qextract_eq] at hh
    simp only [gop, gfin_no]
    exact hh
  · rename_i t x i
    have hh : oIndex tab t x i st env h K = some r := hh
    unfold oIndex at hh
    rw [qrd_eq, qrd_eq] at hh
    simp only [gfin_no] at hh
    rw [qindex_ok] at hh
    simp only [gop, gfin_no]
    exact hh
  · rename_i t x k
    have hh : oFieldAddr tab t x k st env h K = some r := hh
    unfold oFieldAddr at hh
    rw [qrd_eq] at hh
    simp only [gsl_eq] at hh
    rw [qfieldAddr_eq] at hh
    simp only [gop, gfin_no]
    exact hh
  · rename_i t x i
    have hh : oIndexAddr tab t x i st env h K = some r := hh
    unfold oIndexAddr at hh
    rw [qrd_eq, qrd_eq] at hh
    simp only [gsl_eq] at hh
    simp only [gop, gfin_no]
    exact hh
  · rename_i c
    split at hh
    · rename_i f hc
      have hh : oCallF call f c.args.toList st env h K = some r := hh
      unfold oCallF at hh
      rw [qrds_eq] at hh
      simp only [gop, gcl, hc, qev, fAs_eq]
      simpa using hh
    · have hh : gopF (.call c) tab eqs call ty (qev st env) h K = some r := hh
      rw [gopF_eq] at hh
      exact hh
  · have hh : gopF op tab eqs call ty (qev st env) h K = some r := hh
    rw [gopF_eq] at hh
    exact hh

end
end Go.Proofs.YthpkehhghcpolaaDoor
