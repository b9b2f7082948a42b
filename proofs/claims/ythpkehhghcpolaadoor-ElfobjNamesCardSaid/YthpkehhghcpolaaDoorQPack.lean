/-
  Contracts of closed runs whose outcome is data that lies in memory: it is told as it is, once and for all.
-/
import Derived.Test.YthpkehhghcpolaaDoorQFn
namespace Go.Proofs.YthpkehhghcpolaaDoor
open Go.RowKit
set_option linter.unusedVariables false
set_option linter.unusedSimpArgs false

mutual
/-- A value as data, with the blocks that it is read from. -/
def nsnapF : Nat → (Nat → Option Blk) → AV → Option (T × List Nat)
  | 0, _, _ => none
  | k + 1, get, v =>
    match v with
    | .t x => some (x, [])
    | .sl b g i m =>
      match get b with
      | some (.arr _ s z gen l) =>
        match Nat.beq g gen with
        | true => match z && Nat.beq l.length 0 with
          | true => some (.nils, [])
          | false => match l.part i m with
            | .ts q => some (.vec s q, [b])
            | .vs q => match nsnapL k get q with | some (q, ids) => some (.vec s q, b :: ids) | none => none
        | false => none
      | _ => none
    | .emp => some (.vec 0 [], [])
    | .ptr b _ _ o =>
      match get b with
      | some (.box cells) => match nsnapL k get (cells.drop o) with | some (l, ids) => some (.iptr l, b :: ids) | none => none
      | _ => none
    | .agg cs => match cs.all AV.one, nsnapL k get cs with | true, some (l, ids) => some (.agg l, ids) | _, _ => none
    | .fn f a b => match nsnapL k get a, nsnapL k get b with | some (x, i), some (y, j) => some (.fn f x y, i ++ j) | _, _ => none
    | .ifc t v => match nsnapF k get v with | some (x, i) => some (.ifc t x, i) | none => none
    | _ => none
def nsnapL : Nat → (Nat → Option Blk) → List AV → Option (List T × List Nat)
  | 0, _, _ => none
  | _ + 1, _, [] => some ([], [])
  | k + 1, get, v :: r => match nsnapF k get v, nsnapL k get r with | some (x, i), some (l, j) => some (x :: l, i ++ j) | _, _ => none
end

mutual
theorem nsnapF_eq (H : AH) : ∀ (k : Nat) (v : AV), nsnapF k (gt H) v = snapF k H v
  | 0, v => by simp only [nsnapF, snapF]
  | k + 1, v => by cases v <;> simp only [nsnapF, snapF, gt, nsnapF_eq H k, nsnapL_eq H k] <;> rfl
theorem nsnapL_eq (H : AH) : ∀ (k : Nat) (l : List AV), nsnapL k (gt H) l = snapL k H l
  | 0, l => by simp only [nsnapL, snapL]
  | k + 1, [] => by simp only [nsnapL, snapL]
  | k + 1, v :: r => by simp only [nsnapL, snapL, nsnapF_eq H k, nsnapL_eq H k]; rfl
end

noncomputable def qData (p : Option (AV × NH)) : Option T :=
  match p with
  | some (v, h) => (nsnapF 5000 h.hp.get v).map Prod.fst
  | none => none

noncomputable def qIsT (x : T) (p : Option (AV × NH)) : Bool :=
  match qData p with
  | some y => tEq y x
  | none => false

section
variable {P : Program} {tab : Tab} {eqs : TypeId → Bool}

/-- A call without unknowns whose outcome is that data: its contract. -/
theorem Runs.of_qcallT (hT : TabOK P tab) (hm : P.follows .mixedOrders = true) (hE : ∀ t y, eqs t = true → tab t = some y → y.eqOK) {ext : FuncId → List AV → Option AV}
    (hX : ∀ {f : FuncId} {args : List AV} {v : AV}, ext f args = some v → ∀ H, CallS P f args H (fun r H' => r = v ∧ H' = H)) {k : Nat} {f : FuncId} {ts : List T} {x : T}
    (h : qIsT x (qcall P tab eqs ext k f (ts.map .t) ⟨.leaf, 0, 0⟩) = true) : Runs P f ts (.t x) := by
  unfold qIsT at h
  split at h
  · rename_i y hy
    obtain rfl := tEq_ok h
    unfold qData at hy
    split at hy
    · rename_i v h' hh
      obtain ⟨H', ha, _, _, hc⟩ := qcall_ok hT hm hE hX k hh (H := []) ⟨rfl, funext fun b => by simp [Tr.get_leaf]⟩
      rw [ha.get, nsnapF_eq] at hy
      refine Runs.of_call ?_ rfl
      refine CallS.mono hc fun r H'' ⟨e1, e2⟩ => ?_
      subst e1 e2
      exact ⟨hy, rfl⟩
    · cases hy
  · cases h

theorem toTs_map : ∀ ts : List T, toTs (ts.map .t) = some ts
  | [] => rfl
  | t :: r => by simp only [List.map_cons, toTs, toT1, toTs_map r]

/-- What a contract on data gives to other closed runs. -/
theorem Runs.known {f : FuncId} {ts : List T} {x : T} (h : Runs P f ts (.t x)) (H : AH) : CallS P f (ts.map .t) H (fun r H' => r = .t x ∧ H' = H) :=
  CallS.pure h (toTs_map ts) ⟨rfl, List.append_nil H⟩

/-- Several outcomes, each as data. -/
noncomputable def qEach (get : Nat → Option Blk) : List T → List AV → Bool
  | [], [] => true
  | x :: r, v :: q => (match (nsnapF 5000 get v).map Prod.fst with | some y => (match tEq y x with | true => qEach get r q | false => false) | none => false)
  | _, _ => false

theorem qEach_ok {H : AH} : ∀ {xs : List T} {vs : List AV}, qEach (gt H) xs vs = true → packPL2 H (xs.map .t) vs
  | [], [], _ => trivial
  | [], v :: q, h => by cases h
  | x :: r, [], h => by cases h
  | x :: r, v :: q, h => by
    unfold qEach at h
    split at h
    · rename_i y hy
      split at h
      · rename_i he
        obtain rfl := tEq_ok he
        rw [nsnapF_eq] at hy
        exact ⟨hy, qEach_ok h⟩
      · cases h
    · cases h

theorem ownL2_t : ∀ (xs : List T) (vs : List AV), ownL2 (xs.map .t) vs = []
  | [], vs => by cases vs <;> rfl
  | x :: r, [] => rfl
  | x :: r, v :: vs => ownL2_t r vs

noncomputable def qIsR (xs : List T) (p : Option (AV × NH)) : Bool :=
  match p with
  | some (.tup vs, h) => qEach h.hp.get xs vs
  | _ => false

/-- A call without unknowns whose outcomes are that data: its contract. -/
theorem Runs.of_qcallR (hT : TabOK P tab) (hm : P.follows .mixedOrders = true) (hE : ∀ t y, eqs t = true → tab t = some y → y.eqOK) {ext : FuncId → List AV → Option AV}
    (hX : ∀ {f : FuncId} {args : List AV} {v : AV}, ext f args = some v → ∀ H, CallS P f args H (fun r H' => r = v ∧ H' = H)) {k : Nat} {f : FuncId} {ts xs : List T} (hn : noRef (.tup (xs.map .t)) = true)
    (h : qIsR xs (qcall P tab eqs ext k f (ts.map .t) ⟨.leaf, 0, 0⟩) = true) : Runs P f ts (.tup (xs.map .t)) := by
  unfold qIsR at h
  split at h
  · rename_i vs h' hh
    obtain ⟨H', ha, _, _, hc⟩ := qcall_ok hT hm hE hX k hh (H := []) ⟨rfl, funext fun b => by simp [Tr.get_leaf]⟩
    rw [ha.get] at h
    refine Runs.of_call ?_ hn
    refine CallS.mono hc fun r H'' ⟨e1, e2⟩ => ?_
    subst e1 e2
    refine ⟨qEach_ok h, ?_⟩
    show apartB (ownL2 (xs.map .t) vs) _ = true
    rw [ownL2_t]
    simp [apartB]
  · cases h

/-- One more function whose outcome is known, at a string. -/
noncomputable def extP (e : FuncId → List AV → Option AV) (g : Nat) (s : List UInt8) (r : AV) : FuncId → List AV → Option AV := fun f args =>
  match Nat.beq f g, args with
  | true, [.t (.str u)] => (match sbeq u s with | true => some r | false => e f args)
  | _, _ => e f args

theorem extP_ok {e : FuncId → List AV → Option AV} {g : Nat} {s : List UInt8} {r : AV} (he : ∀ {f : FuncId} {args : List AV} {v : AV}, e f args = some v → ∀ H, CallS P f args H (fun r H' => r = v ∧ H' = H)) (h : Runs P g [.str s] r)
    (hi : ∀ n, imp n r = (r, [])) : ∀ {f : FuncId} {args : List AV} {v : AV}, extP e g s r f args = some v → ∀ H, CallS P f args H (fun r H' => r = v ∧ H' = H) := by
  intro f args v hh H
  unfold extP at hh
  split at hh
  · rename_i u hf
    split at hh
    · rename_i hs
      cases hh
      obtain rfl := Nat.eq_of_beq_eq_true hf
      obtain rfl := sbeq_ok hs
      exact CallS.pure h rfl (by rw [hi]; exact ⟨rfl, List.append_nil H⟩)
    · exact he hh H
  · exact he hh H

/-- One more function whose outcome is known. -/
def extK (e : FuncId → List AV → Option AV) (g : Nat) (x : T) : FuncId → List AV → Option AV := fun f args => match Nat.beq f g, args with | true, [] => some (.t x) | _, _ => e f args
theorem extK_ok {e : FuncId → List AV → Option AV} {g : Nat} {x : T} (he : ∀ {f : FuncId} {args : List AV} {v : AV}, e f args = some v → ∀ H, CallS P f args H (fun r H' => r = v ∧ H' = H)) (h : Runs P g [] (.t x)) :
    ∀ {f : FuncId} {args : List AV} {v : AV}, extK e g x f args = some v → ∀ H, CallS P f args H (fun r H' => r = v ∧ H' = H) := by
  intro f args v hh
  unfold extK at hh
  split at hh
  · rename_i hf
    cases hh
    obtain rfl := Nat.eq_of_beq_eq_true hf
    exact Runs.known h
  · exact he hh

end
end Go.Proofs.YthpkehhghcpolaaDoor
