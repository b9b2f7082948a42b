/-
  Regions, pieces of code, functions of a run without unknowns: what the kernel reckons, the model does.
-/
import Derived.Test.YthpkehhghcpolaaDoorNEq
namespace Go.Proofs.YthpkehhghcpolaaDoor
open Go.RowKit
set_option linter.unusedVariables false
set_option linter.unusedSimpArgs false

/-! ### Regions -/

/-- One operation, or none, as its guard says. -/
noncomputable def ngd (tab : Tab) (eqs : TypeId → Bool) (call : CallN) (ops : Array Oper) (o : Oper) (s : NS) : Option NS :=
  match o.guard with
  | none => nop tab eqs call o s.env s.h
  | some (j, want) =>
    match guardSlot ops j with
    | none => none
    | some d =>
      match nlk s.env d with
      | .t (.bool c) =>
        (match want, c with
        | true, true => nop tab eqs call o ((d, .t (.bool true)) :: s.env) s.h
        | true, false => nstp o.dst ((d, .t (.bool false)) :: s.env) s.h (.tup []) .no
        | false, true => nstp o.dst ((d, .t (.bool true)) :: s.env) s.h (.tup []) .no
        | false, false => nop tab eqs call o ((d, .t (.bool false)) :: s.env) s.h)
      | .tup [] => nstp o.dst s.env s.h (.tup []) .no
      | _ => none

noncomputable def nops (tab : Tab) (eqs : TypeId → Bool) (call : CallN) (ops : Array Oper) : List Oper → NS → Option NS
  | [], s => some s
  | o :: r, s =>
    match ngd tab eqs call ops o s with
    | some s' => nops tab eqs call ops r s'
    | none => none

/-- Does it do without memory? -/
def pureOp (o : Oper) : Bool :=
  match o.op with
  | .move _ => true
  | .pick _ _ _ => true
  | .build _ _ => true
  | .binOp op _ _ _ _ => (match op with | .eql => false | .neq => false | _ => true)
  | .unOp _ _ _ => true
  | .field _ _ _ => true
  | .index _ _ _ => true
  | .extract _ _ => true
  | .makeInterface _ _ => true
  | .makeFunc _ _ _ => true
  | _ => false

theorem xread_pure {tab : Tab} {o : Oper} {env : List (Nat × AV)} {H H' : AH} {K : AV → Prop} (hp : pureOp o = true) (h : xread tab o env H K) : xread tab o env H' K := by
  unfold xread at h ⊢
  unfold pureOp at hp
  generalize o.op = p at h hp ⊢
  cases p <;> simp only at hp h ⊢ <;> first | exact h | (cases hp; done) | skip
  rename_i op t x y t2
  unfold xbin at h ⊢
  split <;> simp_all only
  cases op <;> simp only at hp h ⊢ <;> first | exact h | (cases hp; done) | skip

def pureAt (ops : Array Oper) (i : Nat) : Bool := match ops[i]? with | some o => pureOp o | none => false

/-- Of each that reads, blocks that may be written before it. -/
def dOf (ops : Array Oper) (n : Nat) (D : Nat → List Nat) (i : Nat) : List Nat := match pureAt ops i with | true => List.range n | false => D i

/-- Items of a region's walk: an operation (does it need all that came before?), or two stores in either order. -/
inductive NIt where
  | op (i : Nat) (fl : Bool)
  | race (j i : Nat)

/-- An order in which a region can be walked: reads early. -/
def nsig1 (rd st : Nat → Bool) (cm : Nat) (dm am : List Nat) (n : Nat) : Nat → Nat → List NIt
  | 0, _ => []
  | f + 1, done =>
    let ready := (List.range n).filter fun k => !done.testBit k && Nat.beq (Nat.land (dm.getD k 0) done) (dm.getD k 0)
    match ready.find? rd with
    | some k => .op k false :: nsig1 rd st cm dm am n f (Nat.lor done (Nat.shiftLeft 1 k))
    | none =>
      match ready with
      | [j, k] =>
        (match st j && st k with
        | true => .race j k :: nsig1 rd st cm dm am n f (Nat.lor (Nat.lor done (Nat.shiftLeft 1 k)) (Nat.shiftLeft 1 j))
        | false => .op j (Nat.beq (Nat.land done (Nat.lor cm (am.getD j 0))) done) :: nsig1 rd st cm dm am n f (Nat.lor done (Nat.shiftLeft 1 j)))
      | k :: _ => .op k (Nat.beq (Nat.land done (Nat.lor cm (am.getD k 0))) done) :: nsig1 rd st cm dm am n f (Nat.lor done (Nat.shiftLeft 1 k))
      | [] => []

def bit1 : List Nat → Nat
  | [] => 0
  | j :: r => Nat.lor (Nat.shiftLeft 1 j) (bit1 r)

def plainStore (o : Oper) : Option (TypeId × Operand × Operand) :=
  match o.guard, o.dst, o.op with
  | none, none, .store t a x => some (t, a, x)
  | _, _, _ => none

def nsig (ops : Array Oper) : List NIt :=
  nsig1 (fun k => match ops[k]? with | some o => isRd o || isMk o | none => false) (fun k => match ops[k]? with | some o => (match plainStore o with | some _ => true | none => false) | none => false)
    (bit1 ((List.range ops.size).filter fun k => chainB ops k || pureAt ops k)) (ops.toList.map fun o => bit1 (binders o)) (masks ops) ops.size ops.size 0

/-- What came before and may not be there yet. -/
def unOf (ops : Array Oper) (ms : List Nat) (i : Nat) (done : List Nat) : List Nat := done.filter fun j => !((ms.getD i 0).testBit j || chainB ops j)

def toOrd (ops : Array Oper) (ms : List Nat) : List NIt → List Nat → Ord → Ord
  | [], _, T => T
  | .op i fl :: r, done, T => .op i (unOf ops ms i done) (toOrd ops ms r (i :: done) T)
  | .race j i :: r, done, T =>
    let rest := toOrd ops ms r (i :: j :: done) T
    .race (.op j (unOf ops ms j done) (.op i (unOf ops ms i done) rest)) (.op i (unOf ops ms i done) (.op j (unOf ops ms j done) rest))

section
variable {R : Type}

/-- Memory without those blocks. -/
noncomputable def nhide : List Nat → NH → (NH → Option R) → Option R
  | [], h, K => K h
  | b :: r, ⟨hp, len, lo⟩, K => match Nat.blt b len with | true => nset 24 hp b .dead fun hp => nhide r ⟨hp, len, lo⟩ K | false => nhide r ⟨hp, len, lo⟩ K

theorem nhide_ok : ∀ {D : List Nat} {h : NH} {K : NH → Option R} {q : R}, nhide D h K = some q → ∀ {H : AH}, HA h H → ∃ h', K h' = some q ∧ HA h' (hide D H)
  | [], h, K, q, hh, H, ha => ⟨h, hh, ha⟩
  | b :: r, ⟨hp, len, lo⟩, K, q, hh, H, ha => by
    unfold nhide at hh
    split at hh
    · rename_i hb
      have hlt : b < len := by simpa [Nat.blt_eq] using hb
      have hl : H.length = len := ha.len
      obtain ⟨t', h1, h2, h3⟩ := nset_ok hh
      refine nhide_ok (D := r) h1 (H := H.set b .dead) ⟨by simp [hl], funext fun i => ?_⟩
      simp only [gt]
      by_cases e : i = b
      · subst e; rw [h2, List.getElem?_set_self (by omega)]
      · rw [h3 i e, List.getElem?_set_ne (fun h => e h.symm)]; exact congrFun ha.get i
    · rename_i hb
      have hle : len ≤ b := Nat.le_of_not_lt fun h => by rw [show Nat.blt b len = true by simpa [Nat.blt_eq] using h] at hb; cases hb
      have hl : H.length = len := ha.len
      refine nhide_ok (D := r) hh (H := H.set b .dead) ?_
      rw [List.set_eq_of_length_le (by omega)]
      exact ha

end

/-- What an operation does to memory, where that is one thing. -/
noncomputable def nopc {R : Type} (tab : Tab) (o : Oper) (env : List (Nat × AV)) (h : NH) (K : AV → HC → Option R) : Option R :=
  match o.op with
  | .store t a x => nstore tab t h.hp.get (nopd env a) (nopd env x) fun c => K (.tup []) c
  | .call c =>
    (match c.callee, c.argTypes.toList, c.args.toList with
    | .builtin .append, [t, u], [x, y] => NOpt (tab u) fun z => (match isIntD z.d with | true => nappendZ tab t (nopd env x) (nopd env y) h.hp.get h.len K | false => nappend tab t h.hp.get h.len (nopd env x) (nopd env y) K)
    | _, _, _ => none)
  | _ => none

theorem nopc_ok {R : Type} {tab : Tab} {call : CallP} {o : Oper} {env : List (Nat × AV)} {h : NH} {H : AH} (ha : HA h H) {K : AV → HC → Option R} {r : R} (hh : nopc tab o env h K = some r) :
    ∃ v c, K v c = some r ∧ ∀ K' : AV → AH → Prop, K' v (c.on H) → xop tab call o env H K' := by
  unfold nopc at hh
  rw [nopd_fun, ha.get, ← ha.len] at hh
  split at hh
  · rename_i t x y ho
    obtain ⟨c, h1, h2⟩ := nstore_ok hh
    exact ⟨_, c, h1, fun K k => by unfold xop; rw [ho]; exact h2 (fun H => K (.tup []) H) k⟩
  · rename_i cl ho
    split at hh
    · rename_i t u x y hcb h1 h2
      rw [nopt_iff] at hh
      obtain ⟨z, hz, hh⟩ := hh
      split at hh
      · rename_i hc
        obtain ⟨v, c, k1, k2⟩ := nappendZ_ok hh
        exact ⟨v, c, k1, fun K k => by unfold xop; rw [ho]; simp only; unfold xcall; rw [hcb]; simp only; rw [h1, h2]; refine opt_intro hz ?_; rw [hc]; exact k2 K k⟩
      · rename_i hc
        obtain ⟨v, c, k1, k2⟩ := nappend_ok hh
        exact ⟨v, c, k1, fun K k => by unfold xop; rw [ho]; simp only; unfold xcall; rw [hcb]; simp only; rw [h1, h2]; refine opt_intro hz ?_; rw [hc]; exact k2 K k⟩
    · cases hh
  · cases hh

/-- Is it such an operation? -/
def knownC (o : Oper) : Bool :=
  match o.guard, o.op with
  | none, .store _ _ _ => true
  | none, .call c => (match c.callee with | .builtin .append => true | _ => false)
  | _, _ => false

theorem knownC_guard {o : Oper} (h : knownC o = true) : o.guard = none := by
  unfold knownC at h
  split at h <;> first | assumption | cases h

/-- Those reads, each with a block. -/
def nbars {R : Type} (ops : Array Oper) (b : Nat) : List Nat → List (Nat × Nat) → (List (Nat × Nat) → R) → R
  | [], acc, K => K acc
  | q :: r, acc, K => match pureAt ops q with | true => nbars ops b r acc K | false => nbars ops b r ((q, b) :: acc) K

def bars (acc : List (Nat × Nat)) (k : Nat) : List Nat :=
  match acc with
  | [] => []
  | (q, b) :: r => match Nat.beq q k with | true => b :: bars r k | false => bars r k

noncomputable def ngs1 {R : Type} (tab : Tab) (ops : Array Oper) (ms : List Nat) (o : Oper) (i : Nat) (done : List Nat) (s : NS) (acc : List (Nat × Nat)) (K : List (Nat × Nat) → Option R) : Option R :=
  match knownC o with
  | true => nopc tab o s.env s.h fun _ c => (match c with | .set b _ => fN b fun b => nbars ops b (unOf ops ms i done) acc K | _ => K acc)
  | false => K acc

def nbarsL {R : Type} (ops : Array Oper) (l : List Nat) : List Nat → List (Nat × Nat) → (List (Nat × Nat) → R) → R
  | [], acc, K => K acc
  | b :: r, acc, K => nbars ops b l acc fun acc => nbarsL ops l r acc K

/-- The blocks that an operation wrote that are not new. -/
noncomputable def nwr (s s' : NS) : List Nat := ndiff s.h.hp.get s'.h.hp.get s'.h.lo (Nat.sub s.h.len s'.h.lo)

noncomputable def ngs2 {R : Type} (ops : Array Oper) (ms : List Nat) (o : Oper) (i : Nat) (done : List Nat) (s s' : NS) (acc : List (Nat × Nat)) (K : List (Nat × Nat) → Option R) : Option R :=
  match isRd o || isMk o || knownC o || Nat.ble s.h.len s'.h.lo with
  | true => K acc
  | false => nbarsL ops (unOf ops ms i done) (nwr s s') acc K

/-- Blocks that a region's stores write, with the reads that may come behind them. -/
noncomputable def nguess {R : Type} (tab : Tab) (eqs : TypeId → Bool) (call : CallN) (ops : Array Oper) (ms : List Nat) : List NIt → List Nat → List (Nat × Nat) → NS → ((Nat → List Nat) → Option R) → Option R
  | [], _, acc, _, K => K (bars acc)
  | .op i _ :: r, done, acc, s, K =>
    (match ops[i]? with
    | none => none
    | some o => ngs1 tab ops ms o i done s acc fun acc => match ngd tab eqs call ops o ⟨s.env, ⟨s.h.hp, s.h.len, s.h.len⟩⟩ with
      | some s' => ngs2 ops ms o i done s s' acc fun acc => nguess tab eqs call ops ms r (i :: done) acc s' K
      | none => none)
  | .race j i :: r, done, acc, s, K =>
    (match ops[j]?, ops[i]? with
    | some oj, some oi => ngs1 tab ops ms oj j done s acc fun acc => ngs1 tab ops ms oi i done s acc fun acc =>
      (match ngd tab eqs call ops oj s with
      | some s' => (match ngd tab eqs call ops oi s' with
        | some s'' => nguess tab eqs call ops ms r (i :: j :: done) acc s'' K
        | none => none)
      | none => none)
    | _, _ => none)

theorem nbars_ok {R : Type} {ops : Array Oper} {b : Nat} : ∀ {l : List Nat} {acc : List (Nat × Nat)} {K : List (Nat × Nat) → Option R} {q : R}, nbars ops b l acc K = some q → ∃ acc, K acc = some q
  | [], acc, K, q, h => ⟨_, h⟩
  | x :: r, acc, K, q, h => by
    unfold nbars at h
    split at h
    · exact nbars_ok h
    · exact nbars_ok h

theorem nbarsL_ok {R : Type} {ops : Array Oper} {l : List Nat} : ∀ {bs : List Nat} {acc : List (Nat × Nat)} {K : List (Nat × Nat) → Option R} {q : R}, nbarsL ops l bs acc K = some q → ∃ acc, K acc = some q
  | [], acc, K, q, h => ⟨_, h⟩
  | b :: r, acc, K, q, h => by
    unfold nbarsL at h
    obtain ⟨acc', h⟩ := nbars_ok h
    exact nbarsL_ok h

theorem ngs2_ok {R : Type} {ops : Array Oper} {ms : List Nat} {o : Oper} {i : Nat} {done : List Nat} {s s' : NS} {acc : List (Nat × Nat)} {K : List (Nat × Nat) → Option R} {q : R} (h : ngs2 ops ms o i done s s' acc K = some q) : ∃ acc, K acc = some q := by
  unfold ngs2 at h
  split at h
  · exact ⟨_, h⟩
  · exact nbarsL_ok h

theorem nopc_any {R : Type} {tab : Tab} {o : Oper} {s : NS} {K : AV → HC → Option R} {q : R} (h : nopc tab o s.env s.h K = some q) (H : AH) (ha : HA s.h H) : ∃ v c, K v c = some q := by
  obtain ⟨v, c, h1, _⟩ := nopc_ok (call := fun _ _ _ _ => True) ha h
  exact ⟨v, c, h1⟩

theorem ngs1_ok {R : Type} {tab : Tab} {ops : Array Oper} {ms : List Nat} {o : Oper} {i : Nat} {done : List Nat} {s : NS} {acc : List (Nat × Nat)} {K : List (Nat × Nat) → Option R} {q : R} (h : ngs1 tab ops ms o i done s acc K = some q) {H : AH} (ha : HA s.h H) : ∃ acc, K acc = some q := by
  unfold ngs1 at h
  split at h
  · obtain ⟨v, c, h⟩ := nopc_any h H ha
    split at h
    · rw [fN_eq] at h; exact nbars_ok h
    · exact ⟨_, h⟩
  · exact ⟨_, h⟩

/-- Is there a store that a read may come behind? -/
def hasRace (ops : Array Oper) (ms : List Nat) : List NIt → List Nat → Bool
  | [], _ => false
  | .op i _ :: r, done =>
    (match ops[i]? with
    | some o => (match knownC o with | true => !(unOf ops ms i done).all (pureAt ops) | false => false)
    | none => false) || hasRace ops ms r (i :: done)
  | .race _ _ :: _, _ => true

/-- A region that draws its order. -/
noncomputable def ndr (tab : Tab) (eqs : TypeId → Bool) (call : CallN) (ops : Array Oper) (ms : List Nat) (n : Nat) (D : Nat → List Nat) : List NIt → List Nat → NS → Option NS
  | [], _, s => some s
  | .race j i :: r, done, s =>
    (match ops[j]?, ops[i]? with
    | some oj, some oi =>
      (match plainStore oj, plainStore oi with
      | some (t, a, x), some (t', a', x') =>
        nstore tab t s.h.hp.get (nopd s.env a) (nopd s.env x) fun c => nstore tab t' s.h.hp.get (nopd s.env a') (nopd s.env x') fun c' =>
        (match c, c' with
        | .set b k, .set b' k' =>
          (match (!Nat.beq b b' && Nat.blt b n && Nat.blt b' n) && (unOf ops ms j done).all (fun q => pureAt ops q || (D q).contains b) && (unOf ops ms i done).all (fun q => pureAt ops q || (D q).contains b') with
          | true =>
            (match nstp none s.env s.h (.tup []) (.set b k) with
            | some s1 =>
              (match nstp none s1.env s1.h (.tup []) (.set b' k') with
              | some s2 => ndr tab eqs call ops ms n D r (i :: j :: done) s2
              | none => none)
            | none => none)
          | false => none)
        | _, _ => none)
      | _, _ => none)
    | _, _ => none)
  | .op i fl :: r, done, s =>
    match ops[i]? with
    | none => none
    | some o =>
      match isRd o with
      | true =>
        match pureOp o with
        | true => (match ngd tab eqs call ops o s with | some s' => ndr tab eqs call ops ms n D r (i :: done) s' | none => none)
        | false =>
        (match D i with
        | [] => (match ngd tab eqs call ops o s with | some s' => ndr tab eqs call ops ms n D r (i :: done) s' | none => none)
        | b :: l => nhide (b :: l) s.h fun h => (match ngd tab eqs call ops o ⟨s.env, h⟩ with | some s' => ndr tab eqs call ops ms n D r (i :: done) ⟨s'.env, s.h⟩ | none => none))
      | false =>
      match isMk o with
      | true => (match !(D i).contains s.h.len && !pureOp o with | true => (match ngd tab eqs call ops o s with | some s' => ndr tab eqs call ops ms n D r (i :: done) s' | none => none) | false => none)
      | false =>
      match (unOf ops ms i done).all (pureAt ops) && Nat.ble s.h.len n with
      | true => (match ngd tab eqs call ops o s with | some s' => ndr tab eqs call ops ms n D r (i :: done) s' | none => none)
      | false =>
      match knownC o with
      | true =>
        nopc tab o s.env s.h fun v c =>
        (match (match c with | .set b _ => Nat.blt b n && (unOf ops ms i done).all (fun q => pureAt ops q || (D q).contains b) | _ => true) with
        | true => (match nstp o.dst s.env s.h v c with | some s1 => ndr tab eqs call ops ms n D r (i :: done) s1 | none => none)
        | false => none)
      | false =>
        match ngd tab eqs call ops o ⟨s.env, ⟨s.h.hp, s.h.len, s.h.len⟩⟩ with
        | some s' => (match Nat.ble s.h.len s'.h.lo with
          | true => ndr tab eqs call ops ms n D r (i :: done) ⟨s'.env, ⟨s'.h.hp, s'.h.len, s.h.lo⟩⟩
          | false =>
            (match (nwr s s').all fun b => Nat.blt b n && (unOf ops ms i done).all fun q => pureAt ops q || (D q).contains b with
            | true => ndr tab eqs call ops ms n D r (i :: done) ⟨s'.env, ⟨s'.h.hp, s'.h.len, Nat.min s.h.lo s'.h.lo⟩⟩
            | false => none))
        | none => none

/-! ### Code -/

/-- Of each slot the last that it was given. -/
noncomputable def tbit (m d : Nat) : Bool := Nat.beq (Nat.land (Nat.shiftRight m d) 1) 1
theorem tbit_eq (m d : Nat) : tbit m d = Nat.testBit m d := by
  unfold tbit
  rw [show Nat.land (Nat.shiftRight m d) 1 = (m >>> d) % 2 from Nat.and_one_is_mod _, Nat.testBit_eq_decide_div_mod_eq, ← Nat.shiftRight_eq_div_pow]
  by_cases h : (m >>> d) % 2 = 1
  · rw [h]; rfl
  · rw [decide_eq_false h]
    have : (m >>> d) % 2 = 0 := by omega
    rw [this]; rfl

noncomputable def ntrim (env : List (Nat × AV)) : Nat → List (Nat × AV) :=
  @List.rec (Nat × AV) (fun _ => Nat → List (Nat × AV)) (fun _ => []) (fun p _ go m => @Bool.rec (fun _ => List (Nat × AV)) (p :: go (Nat.lor m (Nat.shiftLeft 1 p.1))) (go m) (tbit m p.1)) env

noncomputable def nloop : Nat → (NS → Option (Ex × NS)) → NS → Option (Ex × NS)
  | 0, _, _ => none
  | n + 1, f, s =>
    match fL (ntrim s.env 0) fun env => f ⟨env, s.h⟩ with
    | some (.normal, s') => nloop n f s'
    | some (.exit i, s') => some (.exit i, s')
    | some (.ret, s') => some (.ret, s')
    | none => none

/-- The two orders of a region in which two stores to one variable race. -/
def chOrd (ops : Array Oper) (ms : List Nat) : Ord :=
  toOrd ops ms [.op 0 false] [] (.race (toOrd ops ms [.op 1 true, .op 2 true, .op 3 false] [0] .nil) (toOrd ops ms [.op 2 true, .op 1 true, .op 3 false] [0] .nil))

/-- Does a region choose at will between true and false? -/
def isChoice (ops : Array Oper) : Bool :=
  match ops.toList with
  | [_, b, c, _] =>
    (match plainStore b, plainStore c with
    | some (_, .tmp d, .const (.bool true)), some (_, .tmp e, .const (.bool false)) => Nat.beq d e
    | _, _ => false)
  | _ => false

/-- The two states that such a region may lead to. -/
noncomputable def nchoose (tab : Tab) (eqs : TypeId → Bool) (call : CallN) (ops : Array Oper) (s : NS) : Option (NS × NS) :=
  match ndr tab eqs call ops (masks ops) (Nat.add s.h.len 1000000) (fun _ => []) [.op 0 false] [] s with
  | none => none
  | some s0 =>
    match ndr tab eqs call ops (masks ops) (Nat.add s.h.len 1000000) (fun _ => []) [.op 1 true, .op 2 true, .op 3 false] [0] s0, ndr tab eqs call ops (masks ops) (Nat.add s.h.len 1000000) (fun _ => []) [.op 2 true, .op 1 true, .op 3 false] [0] s0 with
    | some s1, some s2 => some (s1, s2)
    | _, _ => none

/-- What two states have in common, of which one comes about. -/
noncomputable def njoin (env : List (Nat × AV)) (lo len : Nat) (s1 s2 : NS) : Option NS :=
  match Nat.beq s1.h.len s2.h.len with
  | false => none
  | true =>
    fN (Nat.min s1.h.lo s2.h.lo) fun m =>
    fL (ndiff s1.h.hp.get s2.h.hp.get m (Nat.sub s1.h.len m)) fun ks =>
    nhide ks s1.h fun h => fL (ncom s1.env s2.env env) fun e => fN (Nat.min lo m) fun lo => some ⟨e, ⟨h.hp, h.len, lo⟩⟩

def choiceOf : Code → Option (Array Oper)
  | .region _ ops true => (match isChoice ops with | true => some ops | false => none)
  | _ => none

theorem choiceOf_spec {x : Code} {ops : Array Oper} (h : choiceOf x = some ops) : ∃ id, x = .region id ops true := by
  unfold choiceOf at h
  split at h
  · split at h
    · cases h; exact ⟨_, rfl⟩
    · cases h
  · cases h

noncomputable def ncode (tab : Tab) (eqs : TypeId → Bool) (call : CallN) (fuel : Nat) : Code → NS → Option (Ex × NS)
  | .skip, s => some (.normal, s)
  | .seq x y, s =>
    match choiceOf x with
    | some ops =>
      (match drawOK ops (masks ops) (chOrd ops (masks ops)) [] [] with
      | false => none
      | true =>
        match nchoose tab eqs call ops ⟨s.env, ⟨s.h.hp, s.h.len, s.h.len⟩⟩ with
        | none => none
        | some (s1, s2) =>
          match ncode tab eqs call fuel y s1, ncode tab eqs call fuel y s2 with
          | some (.normal, s1'), some (.normal, s2') => (match njoin s.env s.h.lo s.h.len s1' s2' with | some s' => some (.normal, s') | none => none)
          | _, _ => none)
    | none =>
    match ncode tab eqs call fuel x s with
    | some (.normal, s') => ncode tab eqs call fuel y s'
    | some (.exit i, s') => some (.exit i, s')
    | some (.ret, s') => some (.ret, s')
    | none => none
  | .cond c x y, s =>
    match nopd s.env c with
    | .t (.bool t) => (match t with | true => ncode tab eqs call fuel x s | false => ncode tab eqs call fuel y s)
    | _ => none
  | .block id x, s =>
    match ncode tab eqs call fuel x s with
    | some (.normal, s') => some (.normal, s')
    | some (.exit i, s') => (match Nat.beq i id with | true => some (.normal, s') | false => some (.exit i, s'))
    | some (.ret, s') => some (.ret, s')
    | none => none
  | .loop x, s => nloop fuel (ncode tab eqs call fuel x) s
  | .exit id, s => some (.exit id, s)
  | .ret, s => some (.ret, s)
  | .region _ ops draw, s =>
    match draw with
    | false => (match nops tab eqs call ops ops.toList s with | some s' => some (.normal, s') | none => none)
    | true =>
      match drawOK ops (masks ops) (toOrd ops (masks ops) (nsig ops) [] .nil) [] [] with
      | true =>
        (match hasRace ops (masks ops) (nsig ops) [] with
        | false =>
          (match ndr tab eqs call ops (masks ops) (Nat.add s.h.len 1000000) (fun _ => []) (nsig ops) [] s with
          | some s' => some (.normal, s')
          | none => nguess tab eqs call ops (masks ops) (nsig ops) [] [] s fun D => (match ndr tab eqs call ops (masks ops) (Nat.add s.h.len 1000000) D (nsig ops) [] s with | some s' => some (.normal, s') | none => none))
        | true => nguess tab eqs call ops (masks ops) (nsig ops) [] [] s fun D => (match ndr tab eqs call ops (masks ops) (Nat.add s.h.len 1000000) D (nsig ops) [] s with | some s' => some (.normal, s') | none => none))
      | false => none
  | _, _ => none

/-- What a function hands back. -/
noncomputable def nres (tab : Tab) (env : List (Nat × AV)) (get : Nat → Option Blk) : List ResultVar → Option (List AV)
  | [] => some []
  | .tmp t :: r => (match nres tab env get r with | some l => some (nlk env t :: l) | none => none)
  | .cell a ty :: r => nload tab ty get (nlk env a) fun v => (match nres tab env get r with | some l => some (v :: l) | none => none)

noncomputable def nfn (tab : Tab) (eqs : TypeId → Bool) (call : CallN) (fuel : Nat) (fn : Func) (x : Code) (args : List AV) (h : NH) : Option (AV × NH) :=
  match Nat.ble args.length fn.ntmps && slotsOK fn.ntmps x with
  | false => none
  | true =>
    match ncode tab eqs call fuel x ⟨args0 0 args, h⟩ with
    | some (.exit _, _) => none
    | some (_, s) => (match nres tab s.env s.h.hp.get fn.results.toList with | some l => some (tupOf l, s.h) | none => none)
    | none => none

/-- A call: of what the model itself knows, or of a function's body. -/
noncomputable def ncall (P : Program) (tab : Tab) (eqs : TypeId → Bool) (ext : FuncId → List AV → Option AV) : Nat → CallN
  | 0, _, _, _ => none
  | k + 1, f, args, h =>
    match ext f args with
    | some v => some (v, h)
    | none =>
      match P.funcs[f]? with
      | none => none
      | some fn =>
        match fn.body with
        | none => none
        | some x =>
          match fn.name == "runtime.NumGoroutine" with
          | true => none
          | false => nfn tab eqs (ncall P tab eqs ext k) k fn x args h

section
variable {P : Program} {tab : Tab} {eqs : TypeId → Bool} {call : CallN}

theorem putSt (d : Option Tmp) (v : AV) (env : List (Nat × AV)) (H H0 : AH) : (St.mk env H0).put d v H = ⟨nput d v env, H⟩ := by cases d <;> rfl

/-- What a piece of a region says. -/
structure Went (h : NH) (H : AH) (s' : NS) (X : (St → Prop) → Prop) (H' : AH) : Prop where
  ha : HA s'.h H'
  stay : Stay s'.h.lo H H'
  lo : s'.h.lo ≤ h.lo
  x : ∀ K : St → Prop, K ⟨s'.env, H'⟩ → X K

theorem skip_ok {d : Option Tmp} {env : List (Nat × AV)} {h : NH} {H : AH} (ha : HA h H) {s' : NS} (hh : nstp d env h (.tup []) .no = some s') : Went h H s' (fun K => K ⟨nput d (.tup []) env, H⟩) H := by
  obtain ⟨h1, h2, h3, h4⟩ := nstp_ok hh ha
  exact ⟨h2, h3, h4, fun K k => by rw [← h1]; exact k⟩

theorem run_ok (hC : CallOK P call) (hE : ∀ t y, eqs t = true → tab t = some y → y.eqOK) {o : Oper} {env : List (Nat × AV)} {h : NH} {H : AH} (ha : HA h H) {s' : NS} (hh : nop tab eqs call o env h = some s') :
    ∃ H', Went h H s' (fun K => xop tab (CallS P) o env H fun v H'' => K ⟨nput o.dst v env, H''⟩) H' := by
  obtain ⟨v, H', hst⟩ := nop_ok hC hE ha hh
  exact ⟨H', hst.ha, hst.stay, hst.lo, fun K k => hst.x _ (by rw [← hst.env]; exact k)⟩

theorem ngd_ok (hC : CallOK P call) (hE : ∀ t y, eqs t = true → tab t = some y → y.eqOK) {ops : Array Oper} {o : Oper} {s : NS} {H : AH} (ha : HA s.h H) {s' : NS} (hh : ngd tab eqs call ops o s = some s') :
    ∃ H', Went s.h H s' (fun K => xguard tab (CallS P) ops o ⟨s.env, H⟩ K) H' := by
  obtain ⟨env, h⟩ := s
  unfold ngd at hh
  simp only at hh ha ⊢
  split at hh
  · rename_i hg
    obtain ⟨H', w⟩ := run_ok hC hE ha hh
    exact ⟨H', w.ha, w.stay, w.lo, fun K k => by simp only [xguard, hg, stp_eq, putSt]; exact w.x K k⟩
  · rename_i j want hg
    split at hh
    · cases hh
    · rename_i d hd
      rw [nlk_eq] at hh
      split at hh
      · rename_i c hl
        split at hh
        · obtain ⟨H', w⟩ := run_ok hC hE ha hh
          exact ⟨H', w.ha, w.stay, w.lo, fun K k => by simp only [xguard, hg]; refine opt_intro hd ?_; rw [hl]; simp only [stp_eq, putSt]; exact w.x K k⟩
        · have w := skip_ok ha hh
          exact ⟨H, w.ha, w.stay, w.lo, fun K k => by simp only [xguard, hg]; refine opt_intro hd ?_; rw [hl]; simp only [stp_eq, putSt]; exact w.x K k⟩
        · have w := skip_ok ha hh
          exact ⟨H, w.ha, w.stay, w.lo, fun K k => by simp only [xguard, hg]; refine opt_intro hd ?_; rw [hl]; simp only [stp_eq, putSt]; exact w.x K k⟩
        · obtain ⟨H', w⟩ := run_ok hC hE ha hh
          exact ⟨H', w.ha, w.stay, w.lo, fun K k => by simp only [xguard, hg]; refine opt_intro hd ?_; rw [hl]; simp only [stp_eq, putSt]; exact w.x K k⟩
      · rename_i hl
        have w := skip_ok ha hh
        exact ⟨H, w.ha, w.stay, w.lo, fun K k => by simp only [xguard, hg]; refine opt_intro hd ?_; rw [hl]; simp only [stp_eq, putSt]; exact w.x K k⟩
      · cases hh

theorem nops_ok (hC : CallOK P call) (hE : ∀ t y, eqs t = true → tab t = some y → y.eqOK) {ops : Array Oper} : ∀ {l : List Oper} {s : NS} {H : AH} {s' : NS}, nops tab eqs call ops l s = some s' → HA s.h H →
    ∃ H', Went s.h H s' (fun K => xops tab (CallS P) ops l ⟨s.env, H⟩ K) H'
  | [], s, H, s', hh, ha => by
    cases hh
    exact ⟨H, ha, Stay.refl _ _, Nat.le_refl _, fun K k => k⟩
  | o :: r, s, H, s', hh, ha => by
    unfold nops at hh
    split at hh
    · rename_i s1 h1
      obtain ⟨H1, w1⟩ := ngd_ok hC hE ha h1
      obtain ⟨H2, w2⟩ := nops_ok hC hE hh w1.ha
      exact ⟨H2, w2.ha, w1.stay.trans w2.stay w2.lo, Nat.le_trans w2.lo w1.lo, fun K k => w1.x _ (w2.x K k)⟩
    · cases hh

/-- What only reads, reads. -/
theorem xop_rd {o : Oper} {env : List (Nat × AV)} {H : AH} {K : AV → AH → Prop} (hr : isRd o = true) (h : xop tab (CallS P) o env H K) : xread tab o env H fun v => K v H := by
  unfold xop at h
  unfold xread
  unfold isRd at hr
  generalize o.op = p at h hr ⊢
  cases p <;> simp only at hr h ⊢ <;> first | exact h | (cases hr; done) | skip
  rename_i c
  unfold xcall at h
  generalize c.callee = cc at h hr ⊢
  cases cc <;> first | (cases hr; done) | skip
  rename_i b
  cases b <;> simp only at hr h ⊢ <;> first | (cases hr; done) | skip
  all_goals
    split at h <;> first | (cases h; done) | skip
    all_goals simp_all

theorem LeX.stay {H H' : AH} {lo : Nat} (h : Stay lo H H') (hl : H.length ≤ lo) : LeX [] H H' := fun b blk hb => by
  have hlt := lt_of_getElem? hb
  exact .inr ((h.at_ b (Nat.lt_of_lt_of_le hlt hl) hlt).trans hb)

theorem read_ok (hC : CallOK P call) (hE : ∀ t y, eqs t = true → tab t = some y → y.eqOK) {o : Oper} {env : List (Nat × AV)} {h : NH} {H : AH} (ha : HA h H) {s' : NS} (hr : isRd o = true) (hh : nop tab eqs call o env h = some s') :
    Went h H s' (fun K => xread tab o env H fun v => K ⟨nput o.dst v env, H⟩) H := by
  obtain ⟨v, H', hst⟩ := nop_ok hC hE ha hh
  have h1 := xop_rd hr (hst.x (fun v'' H'' => v'' = v ∧ H'' = H') ⟨rfl, rfl⟩)
  obtain ⟨v2, h2, h3, h4⟩ := d_read.ex h1
  subst h3 h4
  exact ⟨hst.ha, hst.stay, hst.lo, fun K k => d_read.mono (fun a ⟨e1, _⟩ => by rw [e1, ← hst.env]; exact k) h1⟩

theorem ngr_ok (hC : CallOK P call) (hE : ∀ t y, eqs t = true → tab t = some y → y.eqOK) {ops : Array Oper} {o : Oper} {s : NS} {H : AH} (ha : HA s.h H) {s' : NS} (hr : isRd o = true) (hh : ngd tab eqs call ops o s = some s') :
    Went s.h H s' (fun K => xgR tab ops [] o ⟨s.env, H⟩ K) H := by
  obtain ⟨env, h⟩ := s
  unfold ngd at hh
  simp only at hh ha ⊢
  split at hh
  · rename_i hg
    have w := read_ok hC hE ha hr hh
    exact ⟨w.ha, w.stay, w.lo, fun K k => by simp only [xgR, hg, stp_eq, putSt]; exact w.x K k⟩
  · rename_i j want hg
    split at hh
    · cases hh
    · rename_i d hd
      rw [nlk_eq] at hh
      split at hh
      · rename_i c hl
        split at hh
        · have w := read_ok hC hE ha hr hh
          exact ⟨w.ha, w.stay, w.lo, fun K k => by simp only [xgR, hg]; refine opt_intro hd ?_; rw [hl]; simp only [stp_eq, putSt]; exact w.x K k⟩
        · have w := skip_ok ha hh
          exact ⟨w.ha, w.stay, w.lo, fun K k => by simp only [xgR, hg]; refine opt_intro hd ?_; rw [hl]; simp only [stp_eq, putSt]; exact w.x K k⟩
        · have w := skip_ok ha hh
          exact ⟨w.ha, w.stay, w.lo, fun K k => by simp only [xgR, hg]; refine opt_intro hd ?_; rw [hl]; simp only [stp_eq, putSt]; exact w.x K k⟩
        · have w := read_ok hC hE ha hr hh
          exact ⟨w.ha, w.stay, w.lo, fun K k => by simp only [xgR, hg]; refine opt_intro hd ?_; rw [hl]; simp only [stp_eq, putSt]; exact w.x K k⟩
      · rename_i hl
        have w := skip_ok ha hh
        exact ⟨w.ha, w.stay, w.lo, fun K k => by simp only [xgR, hg]; refine opt_intro hd ?_; rw [hl]; simp only [stp_eq, putSt]; exact w.x K k⟩
      · cases hh

theorem nstore_at {R : Type} {ty : TypeId} {H : AH} {a v : AV} {K : HC → Option R} {r : R} (h : nstore tab ty (gt H) a v K = some r) :
    ∃ b blk, K (.set b blk) = some r ∧ ∀ H' : AH, H'[b]? = H[b]? → ∀ K' : AH → Prop, K' (H'.set b blk) → xstore tab ty H' a v K' := by
  rw [nstore_eq] at h
  unfold nstore0 at h
  repeat' (first | (rw [nopt_iff] at h; obtain ⟨_, _, h⟩ := h) | (rw [nck_iff] at h; obtain ⟨_, h⟩ := h) | split at h)
  all_goals first
    | (cases h; done)
    | exact ⟨_, _, h, fun H' e K' k => by
        unfold xstore
        simp only [gt] at *
        repeat (first | exact k | exact trivial | refine opt_intro (by assumption) ?_ | refine ck_intro (by assumption) ?_ | rw [ck_true'] | rw [opt_some'] | simp only [e, *])⟩
    | skip

theorem plain_spec {o : Oper} {t : TypeId} {a x : Operand} (h : plainStore o = some (t, a, x)) : o.guard = none ∧ o.dst = none ∧ o.op = .store t a x := by
  unfold plainStore at h
  split at h
  · rename_i h1 h2 h3
    cases h
    exact ⟨h1, h2, h3⟩
  · cases h

theorem store_notRd {o : Oper} {t : TypeId} {a x : Operand} (h : o.op = .store t a x) : isRd o = false ∧ isMk o = false := by
  unfold isRd isMk
  rw [h]
  exact ⟨rfl, rfl⟩

theorem xguard_plain {call : CallP} {ops : Array Oper} {o : Oper} {t : TypeId} {a x : Operand} (h : plainStore o = some (t, a, x)) {env : List (Nat × AV)} {H : AH} {K : St → Prop} (k : xstore tab t H (opd env a) (opd env x) fun H' => K ⟨env, H'⟩) :
    xguard tab call ops o ⟨env, H⟩ K := by
  obtain ⟨h1, h2, h3⟩ := plain_spec h
  unfold xguard
  simp only [h1, stp_eq, putSt, h2, nput]
  unfold xop
  rw [h3]
  exact k

theorem xgR_hide {ops : Array Oper} {D : List Nat} {o : Oper} {env : List (Nat × AV)} {H : AH} {K : St → Prop} (h : xgR tab ops [] o ⟨env, hide D H⟩ fun s => K ⟨s.env, H⟩) : xgR tab ops D o ⟨env, H⟩ K := by
  simp only [xgR, stp_eq, putSt, hide] at h ⊢
  exact h

theorem xdr_chain {call : CallP} {ops : Array Oper} {D : Nat → List Nat} {i : Nat} {un : List Nat} {r : Ord} {o : Oper} {s : St} {K : St → Prop} (ho : ops[i]? = some o) (hr : isRd o = false) (hm : isMk o = false)
    (h : xguard tab call ops o s fun s' => (∀ j ∈ un, LeX (D j) s.H s'.H) ∧ xdr tab call ops D r s' K) : xdr tab call ops D (.op i un r) s K := by
  unfold xdr
  refine opt_intro ho ?_
  rw [hr]
  simp only
  rw [hm]
  exact h

theorem LeX.all {n : Nat} {H H' : AH} (h : H.length ≤ n) : LeX (List.range n) H H' := fun b blk hb => by
  rcases hide_back (List.range n) hb with e | ⟨hn, h1⟩
  · exact .inl e
  · exact (hn (List.mem_range.2 (Nat.lt_of_lt_of_le (lt_of_getElem? h1) h))).elim

theorem xgR_pure {ops : Array Oper} {D : List Nat} {o : Oper} {env : List (Nat × AV)} {H : AH} {K : St → Prop} (hp : pureOp o = true) (h : xgR tab ops [] o ⟨env, H⟩ K) : xgR tab ops D o ⟨env, H⟩ K := by
  unfold xgR at h ⊢
  simp only at h ⊢
  split at h
  · exact xread_pure hp h
  · rw [opt_iff] at h ⊢
    obtain ⟨d, hd, h⟩ := h
    refine ⟨d, hd, ?_⟩
    split at h
    · split at h
      · rw [br_iff] at h ⊢
        exact h.imp (fun h => ⟨h.1, xread_pure hp h.2⟩) id
      · rw [br_iff] at h ⊢
        exact h.imp id fun h => ⟨h.1, xread_pure hp h.2⟩
    · exact h
    · exact h

/-- What a piece of a region's walk says. -/
structure WentO (P : Program) (tab : Tab) (ops : Array Oper) (ms : List Nat) (D : Nat → List Nat) (l : List NIt) (done : List Nat) (s : NS) (H : AH) (s' : NS) (H' : AH) : Prop where
  ha : HA s'.h H'
  stay : Stay s'.h.lo H H'
  lo : s'.h.lo ≤ s.h.lo
  x : ∀ (T : Ord) (K : St → Prop), xdr tab (CallS P) ops D T ⟨s'.env, H'⟩ K → xdr tab (CallS P) ops D (toOrd ops ms l done T) ⟨s.env, H⟩ K

theorem dOf_mem {ops : Array Oper} {n : Nat} {D : Nat → List Nat} {q b : Nat} (h1 : Nat.blt b n = true) (h2 : (pureAt ops q || (D q).contains b) = true) : b ∈ dOf ops n D q := by
  unfold dOf
  split
  · simpa [Nat.blt_eq] using h1
  · rename_i hp
    rw [hp] at h2
    simpa using h2

theorem ndr_ok (hC : CallOK P call) (hE : ∀ t y, eqs t = true → tab t = some y → y.eqOK) {ops : Array Oper} {ms : List Nat} {n : Nat} {D : Nat → List Nat} : ∀ {l : List NIt} {done : List Nat} {s : NS} {H : AH} {s' : NS}, ndr tab eqs call ops ms n D l done s = some s' → HA s.h H →
    ∃ H', WentO P tab ops ms (dOf ops n D) l done s H s' H'
  | [], done, s, H, s', hh, ha => by
    cases hh
    exact ⟨H, ha, Stay.refl _ _, Nat.le_refl _, fun T K k => k⟩
  | .race j i :: r, done, s, H, s', hh, ha => by
    unfold ndr at hh
    split at hh
    case h_2 => cases hh
    rename_i oj oi hoj hoi
    split at hh
    case h_2 => cases hh
    rename_i t a x t' a' x' hpj hpi
    rw [ha.get, nopd_fun] at hh
    obtain ⟨b, k, hh, hst⟩ := nstore_at hh
    obtain ⟨b', k', hh, hst'⟩ := nstore_at hh
    simp only at hh
    split at hh
    case h_2 => cases hh
    rename_i hc
    simp only [Bool.and_eq_true, Bool.not_eq_true', List.all_eq_true] at hc
    obtain ⟨⟨⟨⟨hbb, hbn⟩, hbn'⟩, hun⟩, hun'⟩ := hc
    have hne : b ≠ b' := fun e => by rw [e] at hbb; simp at hbb
    split at hh
    case h_2 => cases hh
    rename_i s1 h1
    split at hh
    case h_2 => cases hh
    rename_i s2 h2
    obtain ⟨e1, ha1, st1, lo1⟩ := nstp_ok h1 ha
    obtain ⟨e2, ha2, st2, lo2⟩ := nstp_ok h2 ha1
    obtain ⟨H2, w2⟩ := ndr_ok hC hE hh ha2
    refine ⟨H2, w2.ha, (st1.trans st2 lo2).trans w2.stay (w2.lo), Nat.le_trans w2.lo (Nat.le_trans lo2 lo1), fun T K kk => ?_⟩
    have hx := w2.x T K kk
    simp only [HC.on] at hx
    have e3 : s2.env = s.env := by rw [e2, nput, e1, nput]
    rw [e3] at hx
    obtain ⟨_, _, oj3⟩ := plain_spec hpj
    obtain ⟨_, _, oi3⟩ := plain_spec hpi
    obtain ⟨rj, mj⟩ := store_notRd oj3
    obtain ⟨ri, mi⟩ := store_notRd oi3
    have l1 : ∀ (H : AH), ∀ q ∈ unOf ops ms j done, LeX (dOf ops n D q) H (H.set b k) := fun H q hq => LeX.set _ (dOf_mem hbn (hun q hq))
    have l2 : ∀ (H : AH), ∀ q ∈ unOf ops ms i done, LeX (dOf ops n D q) H (H.set b' k') := fun H q hq => LeX.set _ (dOf_mem hbn' (hun' q hq))
    simp only [toOrd]
    unfold xdr
    refine ⟨xdr_chain hoj rj mj (xguard_plain hpj (hst H rfl _ ⟨l1 H, xdr_chain hoi ri mi (xguard_plain hpi (hst' _ (List.getElem?_set_ne hne) _ ⟨l2 _, hx⟩))⟩)),
      xdr_chain hoi ri mi (xguard_plain hpi (hst' H rfl _ ⟨l2 H, xdr_chain hoj rj mj (xguard_plain hpj (hst _ (List.getElem?_set_ne (Ne.symm hne)) _ ⟨l1 _, ?_⟩))⟩))⟩
    rw [List.set_comm _ _ (Ne.symm hne)]
    exact hx
  | .op i fl :: r, done, s, H, s', hh, ha => by
    unfold ndr at hh
    split at hh
    · cases hh
    · rename_i o ho
      cases hrd : isRd o with
      | true =>
        simp only [hrd] at hh
        split at hh
        · rename_i hpu
          split at hh
          · rename_i s1 h1
            have w1 := ngr_ok hC hE ha hrd h1
            obtain ⟨H2, w2⟩ := ndr_ok hC hE hh w1.ha
            refine ⟨H2, w2.ha, w1.stay.trans w2.stay w2.lo, Nat.le_trans w2.lo w1.lo, fun T K k => ?_⟩
            simp only [toOrd]
            unfold xdr
            refine opt_intro ho ?_
            rw [hrd]
            exact xgR_pure hpu (w1.x _ (w2.x T K k))
          · cases hh
        rename_i hpu
        have hdo : dOf ops n D i = D i := by unfold dOf pureAt; rw [ho]; simp only [hpu]
        split at hh
        · rename_i hD
          split at hh
          · rename_i s1 h1
            have w1 := ngr_ok hC hE ha hrd h1
            obtain ⟨H2, w2⟩ := ndr_ok hC hE hh w1.ha
            refine ⟨H2, w2.ha, w1.stay.trans w2.stay w2.lo, Nat.le_trans w2.lo w1.lo, fun T K k => ?_⟩
            simp only [toOrd]
            unfold xdr
            refine opt_intro ho ?_
            rw [hrd]
            simp only
            rw [hdo, hD]
            exact w1.x _ (w2.x T K k)
          · cases hh
        · rename_i b l hD
          obtain ⟨h', hh, ha'⟩ := nhide_ok hh ha
          split at hh
          · rename_i s1 h1
            have w1 := ngr_ok hC hE (s := ⟨s.env, h'⟩) ha' hrd h1
            obtain ⟨H2, w2⟩ := ndr_ok hC hE (s := ⟨s1.env, s.h⟩) hh ha
            refine ⟨H2, w2.ha, w2.stay, w2.lo, fun T K k => ?_⟩
            simp only [toOrd]
            unfold xdr
            refine opt_intro ho ?_
            rw [hrd]
            simp only
            rw [hdo, hD]
            exact xgR_hide (w1.x _ (w2.x T K k))
          · cases hh
      | false =>
        simp only [hrd] at hh
        cases hmk : isMk o with
        | true =>
          simp only [hmk] at hh
          split at hh
          case h_2 => cases hh
          rename_i hD
          simp only [Bool.and_eq_true, Bool.not_eq_true'] at hD
          have hdo : dOf ops n D i = D i := by unfold dOf pureAt; rw [ho]; simp only [hD.2]
          split at hh
          · rename_i s1 h1
            obtain ⟨H1, w1⟩ := ngd_ok hC hE ha h1
            obtain ⟨H2, w2⟩ := ndr_ok hC hE hh w1.ha
            refine ⟨H2, w2.ha, w1.stay.trans w2.stay w2.lo, Nat.le_trans w2.lo w1.lo, fun T K k => ?_⟩
            simp only [toOrd]
            unfold xdr
            refine opt_intro ho ?_
            rw [hrd]
            simp only
            rw [hmk]
            exact ck_intro (by rw [hdo]; simpa [ha.len] using hD.1) (w1.x _ (w2.x T K k))
          · cases hh
        | false =>
          simp only [hmk] at hh
          split at hh
          · rename_i hc
            simp only [Bool.and_eq_true, List.all_eq_true] at hc
            split at hh
            · rename_i s1 h1
              obtain ⟨H1, w1⟩ := ngd_ok hC hE ha h1
              obtain ⟨H2, w2⟩ := ndr_ok hC hE hh w1.ha
              refine ⟨H2, w2.ha, w1.stay.trans w2.stay w2.lo, Nat.le_trans w2.lo w1.lo, fun T K k => ?_⟩
              simp only [toOrd]
              unfold xdr
              refine opt_intro ho ?_
              rw [hrd]
              simp only
              rw [hmk]
              refine w1.x _ ⟨fun j hj => ?_, w2.x T K k⟩
              have hd : dOf ops n D j = List.range n := by unfold dOf; rw [hc.1 j hj]
              rw [hd]
              exact LeX.all (by have := ha.len; have := Nat.le_of_ble_eq_true hc.2; omega)
            · cases hh
          split at hh
          · rename_i hkc
            have hg := knownC_guard hkc
            obtain ⟨v, c, hh, hx0⟩ := nopc_ok (call := CallS P) ha hh
            split at hh
            case h_2 => cases hh
            rename_i hc
            split at hh
            case h_2 => cases hh
            rename_i s1 h1
            obtain ⟨e1, ha1, st1, lo1⟩ := nstp_ok h1 ha
            obtain ⟨H2, w2⟩ := ndr_ok hC hE hh ha1
            refine ⟨H2, w2.ha, st1.trans w2.stay w2.lo, Nat.le_trans w2.lo lo1, fun T K kk => ?_⟩
            have hx := w2.x T K kk
            rw [e1] at hx
            simp only [toOrd]
            refine xdr_chain ho hrd hmk ?_
            simp only [xguard, hg, stp_eq, putSt]
            refine hx0 _ ⟨fun q hq => ?_, hx⟩
            cases c with
            | no => exact LeX.refl _ _
            | push b => exact LeX.append _ _ _
            | set b k =>
              simp only [Bool.and_eq_true, List.all_eq_true] at hc
              exact LeX.set _ (dOf_mem hc.1 (hc.2 q hq))
          · split at hh
            · rename_i s1 h1
              obtain ⟨H1, w1⟩ := ngd_ok hC hE (s := ⟨s.env, ⟨s.h.hp, s.h.len, s.h.len⟩⟩) (H := H) ⟨ha.len, ha.get⟩ h1
              split at hh
              · rename_i hble
                have hle : s.h.len ≤ s1.h.lo := Nat.le_of_ble_eq_true hble
                have hlx : LeX [] H H1 := LeX.stay w1.stay (by rw [ha.len]; exact hle)
                have st1 : Stay s.h.lo H H1 := ⟨w1.stay.len, fun b _ hb => w1.stay.at_ b (by have := ha.len; omega) hb⟩
                obtain ⟨H2, w2⟩ := ndr_ok hC hE (H := H1) hh ⟨w1.ha.len, w1.ha.get⟩
                refine ⟨H2, w2.ha, st1.trans w2.stay w2.lo, w2.lo, fun T K k => ?_⟩
                simp only [toOrd]
                unfold xdr
                refine opt_intro ho ?_
                rw [hrd]
                simp only
                rw [hmk]
                exact w1.x _ ⟨fun j _ => LeX.of hlx, w2.x T K k⟩
              · rename_i hble
                split at hh
                case h_2 => cases hh
                rename_i hc
                simp only [Bool.and_eq_true, List.all_eq_true] at hc
                have hlo : s1.h.lo ≤ s.h.len := w1.lo
                have hlen : H.length = s.h.len := ha.len
                have hx : ∀ j ∈ unOf ops ms i done, LeX (dOf ops n D j) H H1 := fun j hj b blk hb => by
                  rcases hide_back _ hb with e | ⟨hn, hb⟩
                  · exact .inl e
                  · refine .inr ?_
                    have hlt := lt_of_getElem? hb
                    by_cases h1 : b < s1.h.lo
                    · rw [w1.stay.at_ b h1 hlt]; exact hb
                    · rcases ndiff_spec (x := s.h.hp.get) (y := s1.h.hp.get) (b := s1.h.lo) (n := Nat.sub s.h.len s1.h.lo) (i := b - s1.h.lo) (by show b - s1.h.lo < s.h.len - s1.h.lo; omega) with h2 | h2
                      · rw [show s1.h.lo + (b - s1.h.lo) = b by omega] at h2
                        have := hc b h2
                        exact (hn (dOf_mem this.1 (this.2 j hj))).elim
                      · rw [show s1.h.lo + (b - s1.h.lo) = b by omega, ha.get, w1.ha.get] at h2
                        exact h2.symm.trans hb
                have st1 : Stay (Nat.min s.h.lo s1.h.lo) H H1 := w1.stay.le (Nat.min_le_right _ _)
                obtain ⟨H2, w2⟩ := ndr_ok hC hE (H := H1) hh ⟨w1.ha.len, w1.ha.get⟩
                refine ⟨H2, w2.ha, st1.trans w2.stay w2.lo, Nat.le_trans w2.lo (Nat.min_le_left _ _), fun T K k => ?_⟩
                simp only [toOrd]
                unfold xdr
                refine opt_intro ho ?_
                rw [hrd]
                simp only
                rw [hmk]
                exact w1.x _ ⟨fun j hj => hx j hj, w2.x T K k⟩
            · cases hh

theorem nguess_ok {R : Type} (hC : CallOK P call) (hE : ∀ t y, eqs t = true → tab t = some y → y.eqOK) {ops : Array Oper} {ms : List Nat} : ∀ {l : List NIt} {done : List Nat} {acc : List (Nat × Nat)} {s : NS} {K : (Nat → List Nat) → Option R} {q : R}, nguess tab eqs call ops ms l done acc s K = some q → ∀ {H : AH}, HA s.h H → ∃ D, K D = some q
  | [], done, acc, s, K, q, h, H, ha => ⟨_, h⟩
  | .op i _ :: r, done, acc, s, K, q, h, H, ha => by
    unfold nguess at h
    split at h
    · cases h
    · obtain ⟨acc', h⟩ := ngs1_ok h ha
      split at h
      · rename_i s1 h1
        obtain ⟨H1, w1⟩ := ngd_ok hC hE (s := ⟨s.env, ⟨s.h.hp, s.h.len, s.h.len⟩⟩) (H := H) ⟨ha.len, ha.get⟩ h1
        obtain ⟨_, h⟩ := ngs2_ok h
        exact nguess_ok hC hE h w1.ha
      · cases h
  | .race j i :: r, done, acc, s, K, q, h, H, ha => by
    unfold nguess at h
    split at h
    · obtain ⟨_, h⟩ := ngs1_ok h ha
      obtain ⟨_, h⟩ := ngs1_ok h ha
      split at h
      · rename_i s1 h1
        obtain ⟨H1, w1⟩ := ngd_ok hC hE ha h1
        split at h
        · rename_i s2 h2
          obtain ⟨H2, w2⟩ := ngd_ok hC hE w1.ha h2
          exact nguess_ok hC hE h w2.ha
        · cases h
      · cases h
    · cases h

/-! ### Code -/

theorem ntrim_lk : ∀ (env : List (Nat × AV)) (m t : Nat), m.testBit t = false → lk (ntrim env m) t = lk env t
  | [], m, t, h => rfl
  | (d, v) :: r, m, t, h => by
    show lk (@Bool.rec (fun _ => List (Nat × AV)) ((d, v) :: ntrim r (Nat.lor m (Nat.shiftLeft 1 d))) (ntrim r m) (tbit m d)) t = _
    rw [lk_cons, tbit_eq]
    cases hm : Nat.testBit m d with
    | true =>
      have : d ≠ t := fun e => by rw [e, h] at hm; cases hm
      rw [if_neg this]
      exact ntrim_lk r m t h
    | false =>
      show lk ((d, v) :: ntrim r (Nat.lor m (Nat.shiftLeft 1 d))) t = _
      rw [lk_cons]
      by_cases e : d = t
      · rw [if_pos e, if_pos e]
      · rw [if_neg e, if_neg e]
        refine ntrim_lk r _ t ?_
        show (m ||| 1 <<< d).testBit t = false
        rw [Nat.testBit_or, h, Nat.one_shiftLeft, Nat.testBit_two_pow]
        simp [e]

theorem Sat.lk {O c env env' H a w} (h : Sat O c ⟨env, H⟩ a w) (he : ∀ t, Go.Proofs.YthpkehhghcpolaaDoor.lk env' t = Go.Proofs.YthpkehhghcpolaaDoor.lk env t) : Sat O c ⟨env', H⟩ a w :=
  ⟨fun t => by rw [he]; exact h.env t, h.hs, h.size, h.defers, h.ev, h.below⟩

/-- What a piece of code says. -/
structure Did (P : Program) (x : Code) (h : NH) (env : List (Nat × AV)) (H : AH) (e : Ex) (s' : NS) (H' : AH) : Prop where
  ha : HA s'.h H'
  stay : Stay s'.h.lo H H'
  lo : s'.h.lo ≤ h.lo
  wp : ∀ {O : Org} {c : Cx} {a : Act} {w : World} {R : Exit → Act → World → Prop}, slotsOK O.N x = true → Sat O c ⟨env, H⟩ a w → (∀ c' a' w', Sat O c' ⟨s'.env, H'⟩ a' w' → R e.out a' w') → x.wp P R a w

/-- The same of a loop's rounds. -/
structure DidL (P : Program) (x : Code) (h : NH) (env : List (Nat × AV)) (H : AH) (e : Ex) (s' : NS) (H' : AH) : Prop where
  ha : HA s'.h H'
  stay : Stay s'.h.lo H H'
  lo : s'.h.lo ≤ h.lo
  wp : ∀ {O : Org} {c : Cx} {a : Act} {w : World} {R : Exit → Act → World → Prop}, slotsOK O.N x = true → Sat O c ⟨env, H⟩ a w → (∀ c' a' w', Sat O c' ⟨s'.env, H'⟩ a' w' → R e.out a' w') → LoopWP P x R a w

theorem nloop_ok {x : Code} {f : NS → Option (Ex × NS)} (hf : ∀ {s : NS} {H : AH} {e : Ex} {s' : NS}, f s = some (e, s') → HA s.h H → ∃ H', Did P x s.h s.env H e s' H') :
    ∀ {n : Nat} {s : NS} {H : AH} {e : Ex} {s' : NS}, nloop n f s = some (e, s') → HA s.h H → ∃ H', DidL P x s.h s.env H e s' H'
  | 0, s, H, e, s', hh, ha => by simp [nloop] at hh
  | n + 1, s, H, e, s', hh, ha => by
    unfold nloop at hh
    rw [fL_eq] at hh
    have hlk : ∀ t, lk (ntrim s.env 0) t = lk s.env t := fun t => ntrim_lk s.env 0 t (Nat.zero_testBit t)
    split at hh
    · rename_i s1 h1
      obtain ⟨H1, d1⟩ := hf h1 ha
      obtain ⟨H2, d2⟩ := nloop_ok hf hh d1.ha
      refine ⟨H2, d2.ha, d1.stay.trans d2.stay d2.lo, Nat.le_trans d2.lo d1.lo, fun {O c a w R} hsl hs hR => LoopWP.round ?_⟩
      exact d1.wp (R := Exit.then (LoopWP P x R) R) hsl (hs.lk hlk) fun c' a' w' hs' => d2.wp hsl hs' hR
    · rename_i i s1 h1
      cases hh
      obtain ⟨H1, d1⟩ := hf h1 ha
      refine ⟨H1, d1.ha, d1.stay, d1.lo, fun {O c a w R} hsl hs hR => LoopWP.round ?_⟩
      exact d1.wp (R := Exit.then (LoopWP P x R) R) hsl (hs.lk hlk) fun c' a' w' hs' => hR c' a' w' hs'
    · rename_i s1 h1
      cases hh
      obtain ⟨H1, d1⟩ := hf h1 ha
      refine ⟨H1, d1.ha, d1.stay, d1.lo, fun {O c a w R} hsl hs hR => LoopWP.round ?_⟩
      exact d1.wp (R := Exit.then (LoopWP P x R) R) hsl (hs.lk hlk) fun c' a' w' hs' => hR c' a' w' hs'
    · cases hh

theorem nchoose_ok (hC : CallOK P call) (hE : ∀ t y, eqs t = true → tab t = some y → y.eqOK) {ops : Array Oper} {s s1 s2 : NS} (hh : nchoose tab eqs call ops s = some (s1, s2)) {H : AH} (ha : HA s.h H) :
    ∃ H1 H2, (HA s1.h H1 ∧ Stay s1.h.lo H H1 ∧ s1.h.lo ≤ s.h.lo) ∧ (HA s2.h H2 ∧ Stay s2.h.lo H H2 ∧ s2.h.lo ≤ s.h.lo) ∧
      ∀ K : St → Prop, K ⟨s1.env, H1⟩ → K ⟨s2.env, H2⟩ → xdr tab (CallS P) ops (dOf ops (Nat.add s.h.len 1000000) fun _ => []) (chOrd ops (masks ops)) ⟨s.env, H⟩ K := by
  unfold nchoose at hh
  split at hh
  · cases hh
  · rename_i s0 h0
    split at hh
    · rename_i q1 q2 h1 h2
      cases hh
      obtain ⟨H0, w0⟩ := ndr_ok hC hE h0 ha
      obtain ⟨H1, w1⟩ := ndr_ok hC hE h1 w0.ha
      obtain ⟨H2, w2⟩ := ndr_ok hC hE h2 w0.ha
      refine ⟨H1, H2, ⟨w1.ha, w0.stay.trans w1.stay w1.lo, Nat.le_trans w1.lo w0.lo⟩, ⟨w2.ha, w0.stay.trans w2.stay w2.lo, Nat.le_trans w2.lo w0.lo⟩, fun K k1 k2 => ?_⟩
      refine w0.x _ K ?_
      unfold xdr
      exact ⟨w1.x .nil K k1, w2.x .nil K k2⟩
    · cases hh

theorem njoin_ok {env : List (Nat × AV)} {lo len : Nat} {s1 s2 s' : NS} (hh : njoin env lo len s1 s2 = some s') {H H1 H2 : AH} (a1 : HA s1.h H1) (a2 : HA s2.h H2) (st1 : Stay s1.h.lo H H1) (st2 : Stay s2.h.lo H H2)
    (l1 : s1.h.lo ≤ H.length) (l2 : s2.h.lo ≤ H.length) :
    ∃ H', HA s'.h H' ∧ Stay s'.h.lo H H' ∧ s'.h.lo ≤ lo ∧ (∀ {O c a w}, Sat O c ⟨s1.env, H1⟩ a w → Sat O c ⟨s'.env, H'⟩ a w) ∧ (∀ {O c a w}, Sat O c ⟨s2.env, H2⟩ a w → Sat O c ⟨s'.env, H'⟩ a w) := by
  unfold njoin at hh
  split at hh
  · cases hh
  rename_i hl
  have hl := Nat.eq_of_beq_eq_true hl
  simp only [fN_eq, fL_eq] at hh
  generalize hm : Nat.min s1.h.lo s2.h.lo = m at hh
  have m1 : m ≤ s1.h.lo := by rw [← hm]; exact Nat.min_le_left _ _
  have m2 : m ≤ s2.h.lo := by rw [← hm]; exact Nat.min_le_right _ _
  generalize hk : ndiff s1.h.hp.get s2.h.hp.get m (Nat.sub s1.h.len m) = ks at hh
  have hge : ∀ i ∈ ks, m ≤ i := fun i hi => by rw [← hk] at hi; exact ndiff_ge hi
  obtain ⟨h', hh, ha'⟩ := nhide_ok hh a1
  cases hh
  have len1 := a1.len
  have len2 := a2.len
  have heq : hide ks H1 = hide ks H2 := by
    refine hide_eq (by omega) fun i => ?_
    by_cases h1 : i < m
    · exact .inr ((st1.at_ i (by omega) (by omega)).trans (st2.at_ i (by omega) (by omega)).symm)
    · by_cases h2 : i < s1.h.len
      · have := ndiff_spec (x := s1.h.hp.get) (y := s2.h.hp.get) (b := m) (n := Nat.sub s1.h.len m) (i := i - m) (by show i - m < s1.h.len - m; omega)
        rw [hk, show m + (i - m) = i by omega, a1.get, a2.get] at this
        exact this
      · exact .inr (by rw [List.getElem?_eq_none (by omega), List.getElem?_eq_none (by omega)])
  refine ⟨hide ks H1, ⟨ha'.len, ha'.get⟩, ⟨?_, fun b hb hlt => ?_⟩, Nat.min_le_left _ _, fun hs => ?_, fun hs => ?_⟩
  · rw [hide_len]; exact st1.len
  · have hb : b < Nat.min lo m := hb
    have hb : b < m := Nat.lt_of_lt_of_le hb (Nat.min_le_right _ _)
    have hx := st1.at_ b (by omega) hlt
    have hy : H[b]? = some H[b] := List.getElem?_eq_getElem hlt
    rw [hy] at hx ⊢
    rw [hide_get ks hx, if_neg (fun h => by have := hge b h; omega)]
  · exact Sat.agree (ncom_ok env).1 hs.hide
  · rw [heq]
    exact Sat.agree (ncom_ok env).2 hs.hide

theorem ncode_ok (hT : TabOK P tab) (hm : P.follows .mixedOrders = true) (hC : CallOK P call) (hE : ∀ t y, eqs t = true → tab t = some y → y.eqOK) {fuel : Nat} : ∀ {x : Code} {s : NS} {H : AH} {e : Ex} {s' : NS},
    ncode tab eqs call fuel x s = some (e, s') → HA s.h H → ∃ H', Did P x s.h s.env H e s' H' := by
  intro x
  induction x with
  | skip =>
    intro s H e s' hh ha
    cases hh
    exact ⟨H, ha, Stay.refl _ _, Nat.le_refl _, fun {O c a w R} _ hs hR => wp_skip (hR c a w hs)⟩
  | seq x y ihx ihy =>
    intro s H e s' hh ha
    unfold ncode at hh
    split at hh
    · rename_i ops hx
      obtain ⟨id, rfl⟩ := choiceOf_spec hx
      split at hh
      · cases hh
      rename_i hdo
      split at hh
      · cases hh
      rename_i s1 s2 hch
      split at hh
      case h_2 => cases hh
      rename_i s1' s2' h1 h2
      split at hh
      case h_2 => cases hh
      rename_i sj hj
      cases hh
      have hlen := ha.len
      obtain ⟨H1, H2, ⟨a1, t1, o1⟩, ⟨a2, t2, o2⟩, hx⟩ := nchoose_ok hC hE hch (H := H) ⟨ha.len, ha.get⟩
      obtain ⟨H1', d1⟩ := ihy h1 a1
      obtain ⟨H2', d2⟩ := ihy h2 a2
      have e1 := d1.lo
      have e2 := d2.lo
      simp only at o1 o2
      obtain ⟨H', j1, j2, j3, j4, j5⟩ := njoin_ok hj d1.ha d2.ha (t1.trans d1.stay d1.lo) (t2.trans d2.stay d2.lo) (by omega) (by omega)
      refine ⟨H', j1, j2, j3, fun {O c a w R} hsl hs hR => ?_⟩
      simp only [slotsOK, Bool.and_eq_true] at hsl
      refine wp_seq (regD_ok hT hm (regD_intro (dOf ops _ fun _ => []) (chOrd ops (masks ops)) hdo (hx (fun q => q = ⟨s1.env, H1⟩ ∨ q = ⟨s2.env, H2⟩) (.inl rfl) (.inr rfl))) hsl.1 hs fun q c' a' w' hs' hq => ?_)
      rcases hq with rfl | rfl
      · exact d1.wp hsl.2 hs' fun c'' a'' w'' h'' => hR c'' a'' w'' (j4 h'')
      · exact d2.wp hsl.2 hs' fun c'' a'' w'' h'' => hR c'' a'' w'' (j5 h'')
    split at hh
    · rename_i s1 h1
      obtain ⟨H1, d1⟩ := ihx h1 ha
      obtain ⟨H2, d2⟩ := ihy hh d1.ha
      refine ⟨H2, d2.ha, d1.stay.trans d2.stay d2.lo, Nat.le_trans d2.lo d1.lo, fun {O c a w R} hsl hs hR => ?_⟩
      simp only [slotsOK, Bool.and_eq_true] at hsl
      exact wp_seq (d1.wp hsl.1 hs fun c' a' w' hs' => d2.wp hsl.2 hs' hR)
    · rename_i i s1 h1
      cases hh
      obtain ⟨H1, d1⟩ := ihx h1 ha
      refine ⟨H1, d1.ha, d1.stay, d1.lo, fun {O c a w R} hsl hs hR => ?_⟩
      simp only [slotsOK, Bool.and_eq_true] at hsl
      exact wp_seq (d1.wp hsl.1 hs fun c' a' w' hs' => hR c' a' w' hs')
    · rename_i s1 h1
      cases hh
      obtain ⟨H1, d1⟩ := ihx h1 ha
      refine ⟨H1, d1.ha, d1.stay, d1.lo, fun {O c a w R} hsl hs hR => ?_⟩
      simp only [slotsOK, Bool.and_eq_true] at hsl
      exact wp_seq (d1.wp hsl.1 hs fun c' a' w' hs' => hR c' a' w' hs')
    · cases hh
  | cond o x y ihx ihy =>
    intro s H e s' hh ha
    unfold ncode at hh
    rw [nopd_eq] at hh
    split at hh
    · rename_i t ht
      split at hh
      · obtain ⟨H1, d1⟩ := ihx hh ha
        refine ⟨H1, d1.ha, d1.stay, d1.lo, fun {O c a w R} hsl hs hR => ?_⟩
        simp only [slotsOK, Bool.and_eq_true] at hsl
        have hra := opd_ok hs.env o
        rw [ht] at hra
        exact wp_cond hra.bool (d1.wp hsl.1 hs hR)
      · obtain ⟨H1, d1⟩ := ihy hh ha
        refine ⟨H1, d1.ha, d1.stay, d1.lo, fun {O c a w R} hsl hs hR => ?_⟩
        simp only [slotsOK, Bool.and_eq_true] at hsl
        have hra := opd_ok hs.env o
        rw [ht] at hra
        exact wp_cond hra.bool (d1.wp hsl.2 hs hR)
    · cases hh
  | block id x ih =>
    intro s H e s' hh ha
    unfold ncode at hh
    split at hh
    · rename_i s1 h1
      cases hh
      obtain ⟨H1, d1⟩ := ih h1 ha
      exact ⟨H1, d1.ha, d1.stay, d1.lo, fun {O c a w R} hsl hs hR => wp_block (d1.wp hsl hs fun c' a' w' hs' => hR c' a' w' hs')⟩
    · rename_i i s1 h1
      obtain ⟨H1, d1⟩ := ih h1 ha
      split at hh
      · rename_i hb
        cases hh
        refine ⟨H1, d1.ha, d1.stay, d1.lo, fun {O c a w R} hsl hs hR => wp_block (d1.wp hsl hs fun c' a' w' hs' => ?_)⟩
        simp only [Ex.out, Exit.inBlock]
        rw [if_pos (Nat.eq_of_beq_eq_true hb)]
        exact hR c' a' w' hs'
      · rename_i hb
        cases hh
        refine ⟨H1, d1.ha, d1.stay, d1.lo, fun {O c a w R} hsl hs hR => wp_block (d1.wp hsl hs fun c' a' w' hs' => ?_)⟩
        simp only [Ex.out, Exit.inBlock]
        rw [if_neg (fun e => by subst e; simp at hb)]
        exact hR c' a' w' hs'
    · rename_i s1 h1
      cases hh
      obtain ⟨H1, d1⟩ := ih h1 ha
      exact ⟨H1, d1.ha, d1.stay, d1.lo, fun {O c a w R} hsl hs hR => wp_block (d1.wp hsl hs fun c' a' w' hs' => hR c' a' w' hs')⟩
    · cases hh
  | loop x ih =>
    intro s H e s' hh ha
    unfold ncode at hh
    obtain ⟨H1, d1⟩ := nloop_ok (P := P) (x := x) (fun h1 ha1 => ih h1 ha1) hh ha
    exact ⟨H1, d1.ha, d1.stay, d1.lo, fun {O c a w R} hsl hs hR => LoopWP.wp (d1.wp hsl hs hR)⟩
  | exit id =>
    intro s H e s' hh ha
    cases hh
    exact ⟨H, ha, Stay.refl _ _, Nat.le_refl _, fun {O c a w R} _ hs hR => wp_exit (hR c a w hs)⟩
  | ret =>
    intro s H e s' hh ha
    cases hh
    exact ⟨H, ha, Stay.refl _ _, Nat.le_refl _, fun {O c a w R} _ hs hR => wp_ret (hR c a w hs)⟩
  | region id ops draw =>
    intro s H e s' hh ha
    unfold ncode at hh
    split at hh
    · split at hh
      · rename_i s1 h1
        cases hh
        obtain ⟨H1, w1⟩ := nops_ok hC hE h1 ha
        refine ⟨H1, w1.ha, w1.stay, w1.lo, fun {O c a w R} hsl hs hR => wp_region_list (xops_ok hT (w1.x (fun q => q = ⟨s'.env, H1⟩) rfl) hsl hs fun q c' a' w' hs' hq => ?_)⟩
        subst hq
        exact hR c' a' w' hs'
      · cases hh
    · split at hh
      · rename_i hdo
        have go : ∀ D : Nat → List Nat, (match ndr tab eqs call ops (masks ops) (Nat.add s.h.len 1000000) D (nsig ops) [] s with | some s' => some (Ex.normal, s') | none => none) = some (e, s') → ∃ H', Did P (.region id ops true) s.h s.env H e s' H' := by
          intro D hh
          split at hh
          · rename_i s1 h1
            cases hh
            obtain ⟨H1, w1⟩ := ndr_ok hC hE h1 ha
            refine ⟨H1, w1.ha, w1.stay, w1.lo, fun {O c a w R} hsl hs hR => regD_ok hT hm (regD_intro (dOf ops (Nat.add s.h.len 1000000) D) (toOrd ops (masks ops) (nsig ops) [] .nil) hdo (w1.x .nil (fun q => q = ⟨s'.env, H1⟩) rfl)) hsl hs fun q c' a' w' hs' hq => ?_⟩
            subst hq
            exact hR c' a' w' hs'
          · cases hh
        split at hh
        · split at hh
          · rename_i s1 h1
            exact go (fun _ => []) (by rw [h1]; exact hh)
          · obtain ⟨D, hh⟩ := nguess_ok hC hE hh ha
            exact go D hh
        · obtain ⟨D, hh⟩ := nguess_ok hC hE hh ha
          exact go D hh
      · cases hh
  | _ => intro s H e s' hh; cases hh

theorem nres_ok {env : List (Nat × AV)} {H : AH} : ∀ {l : List ResultVar} {vs : List AV}, nres tab env (gt H) l = some vs → ∀ K : List AV → Prop, K vs → xres tab ⟨env, H⟩ l K
  | [], vs, h, K, k => by cases h; exact k
  | .tmp t :: r, vs, h, K, k => by
    unfold nres at h
    split at h
    · rename_i l hl
      cases h
      rw [nlk_eq] at k
      exact nres_ok hl _ k
    · cases h
  | .cell a ty :: r, vs, h, K, k => by
    unfold nres at h
    rw [nlk_eq] at h
    obtain ⟨v, h1, h2⟩ := nload_ok h
    split at h1
    · rename_i l hl
      cases h1
      exact h2 (fun v => xres tab ⟨env, H⟩ r fun l => K (v :: l)) (nres_ok hl _ k)
    · cases h1

theorem nfn_ok (hT : TabOK P tab) (hm : P.follows .mixedOrders = true) (hC : CallOK P call) (hE : ∀ t y, eqs t = true → tab t = some y → y.eqOK) {fuel : Nat} {f : FuncId} {fn : Func} {x : Code} (hf : P.funcs[f]? = some fn) (hb : fn.body = some x)
    (hn : (fn.name == "runtime.NumGoroutine") = false) {args : List AV} {h : NH} {v : AV} {h' : NH} (hh : nfn tab eqs call fuel fn x args h = some (v, h')) {H : AH} (ha : HA h H) :
    ∃ H', HA h' H' ∧ Stay h'.lo H H' ∧ h'.lo ≤ h.lo ∧ CallS P f args H (fun r H'' => r = v ∧ H'' = H') := by
  unfold nfn at hh
  split at hh
  · cases hh
  rename_i hc
  simp only [Bool.and_eq_true] at hc
  have hle := Nat.le_of_ble_eq_true hc.1
  have key : ∀ {e : Ex} {s : NS} {l : List AV}, ncode tab eqs call fuel x ⟨args0 0 args, h⟩ = some (e, s) → (∀ i, e ≠ .exit i) → nres tab s.env s.h.hp.get fn.results.toList = some l →
      ∃ H', HA s.h H' ∧ Stay s.h.lo H H' ∧ s.h.lo ≤ h.lo ∧ CallS P f args H (fun r H'' => r = tupOf l ∧ H'' = H') := by
    intro e s l h1 hne h2
    obtain ⟨H1, d1⟩ := ncode_ok hT hm hC hE h1 ha
    refine ⟨H1, d1.ha, d1.stay, d1.lo, fun B c w vs hs hl hr => .inl ⟨⟨fn, hf, by rw [hb]; rfl, hn⟩, calls_of_wp hf hb ?_⟩⟩
    let O : Org := ⟨fn.ntmps, B, w, c, H, []⟩
    have hs0 : Sat O c ⟨args0 0 args, H⟩ { tmps := vs ++ Array.replicate (fn.ntmps - vs.size) undef, defers := [] } w := by
      refine ⟨fun t => ?_, hs, by simp [O]; omega, rfl, Ev.refl _ _ _, Below.refl _ _⟩
      rw [args0_lk, if_pos (Nat.zero_le _), Nat.sub_zero]
      simp only [Array.getD_eq_getD_getElem?, List.getD_eq_getElem?_getD]
      by_cases ht : t < args.length
      · rw [Array.getElem?_append_left (by omega)]
        obtain ⟨v, hv⟩ := arr_get (a := vs) (i := t) (by omega)
        have ha : args[t]? = some args[t] := List.getElem?_eq_getElem ht
        rw [hv, ha]
        exact hr t _ v ha hv
      · rw [List.getElem?_eq_none (by omega)]
        exact .junk _
    refine d1.wp (O := O) hc.2 hs0 fun c' a' w' hs' => ?_
    rw [d1.ha.get] at h2
    have hx := nres_ok h2 (fun q => q = l) rfl
    obtain ⟨l2, val, r1, r2, k⟩ := results_ok hT hs' hx
    subst k
    cases e with
    | exit id => exact (hne id rfl).elim
    | normal => exact ⟨hs'.defers, val, r1, val, c', _, H1, rfl, r2, hs'.hs, hs'.ev, hs'.below, rfl, rfl⟩
    | ret => exact ⟨hs'.defers, val, r1, val, c', _, H1, rfl, r2, hs'.hs, hs'.ev, hs'.below, rfl, rfl⟩
  split at hh
  · cases hh
  · rename_i e s hne h1
    split at hh
    · rename_i l h2
      cases hh
      exact key h1 hne h2
    · cases hh
  · cases hh

theorem ncall_ok (hT : TabOK P tab) (hm : P.follows .mixedOrders = true) (hE : ∀ t y, eqs t = true → tab t = some y → y.eqOK) {ext : FuncId → List AV → Option AV}
    (hX : ∀ {f : FuncId} {args : List AV} {v : AV}, ext f args = some v → ∀ H, CallS P f args H (fun r H' => r = v ∧ H' = H)) : ∀ k, CallOK P (ncall P tab eqs ext k)
  | 0 => by intro hh; simp [ncall] at hh
  | k + 1 => by
    intro hh H ha
    unfold ncall at hh
    split at hh
    · rename_i v1 h1
      cases hh
      exact ⟨H, ha, Stay.refl _ _, Nat.le_refl _, hX h1 H⟩
    · split at hh
      · cases hh
      · rename_i fn hf
        split at hh
        · cases hh
        · rename_i x hb
          split at hh
          · cases hh
          · rename_i hn
            exact nfn_ok hT hm (ncall_ok hT hm hE hX k) hE hf hb hn hh ha

/-- A call without unknowns whose outcome is data: its contract. -/
theorem Runs.of_ncall (hT : TabOK P tab) (hm : P.follows .mixedOrders = true) (hE : ∀ t y, eqs t = true → tab t = some y → y.eqOK) {ext : FuncId → List AV → Option AV}
    (hX : ∀ {f : FuncId} {args : List AV} {v : AV}, ext f args = some v → ∀ H, CallS P f args H (fun r H' => r = v ∧ H' = H)) {k : Nat} {f : FuncId} {b : Bool}
    (h : (match ncall P tab eqs ext k f [] ⟨.leaf, 0, 0⟩ with | some (.t (.bool c), _) => c == b | _ => false) = true) : Runs P f [] (.t (.bool b)) := by
  split at h
  · rename_i c h' hh
    obtain ⟨H', _, _, _, hc⟩ := ncall_ok hT hm hE hX k hh (H := []) ⟨rfl, funext fun b => by simp [Tr.get_leaf]⟩
    obtain rfl := eq_of_beq h
    refine Runs.of_call ?_ rfl
    refine CallS.mono hc fun r H'' ⟨e1, e2⟩ => ?_
    subst e1
    exact ⟨rfl, rfl⟩
  · cases h

end
end Go.Proofs.YthpkehhghcpolaaDoor
