/-
  Contracts of closed runs whose outcome is data that lies in memory: it is told as it is, once and for all.
-/
import Derived.Test.YtndndphafpgpfaaGreatDoorQFn
namespace Go.Proofs.YtndndphafpgpfaaGreatDoor
open Go.RowKit
set_option linter.unusedVariables false
set_option linter.unusedSimpArgs false

mutual
/-- A value as data, with the blocks that it is read from. -/
def nsnapF : Nat → (Nat → Option Blk) → AV → Option (T × List Nat)
  | 0, _, _ => none
  | k + 1, get, v =>
    match v with
    | .t x => some (x, [])
    | .sl b g i m =>
      match get b with
      | some (.arr _ s z gen l) =>
        match Nat.beq g gen with
        | true => match z && Nat.beq l.length 0 with
          | true => some (.nils, [])
          | false => match l.part i m with
            | .ts q => some (.vec s q, [b])
            | .vs q => match nsnapL k get q with | some (q, ids) => some (.vec s q, b :: ids) | none => none
        | false => none
      | _ => none
    | .emp => some (.vec 0 [], [])
    | .ptr b _ _ o =>
      match get b with
      | some (.box cells) => match nsnapL k get (cells.drop o) with | some (l, ids) => some (.iptr l, b :: ids) | none => none
      | _ => none
    | .agg cs => match cs.all AV.one, nsnapL k get cs with | true, some (l, ids) => some (.agg l, ids) | _, _ => none
    | .fn f a b => match nsnapL k get a, nsnapL k get b with | some (x, i), some (y, j) => some (.fn f x y, i ++ j) | _, _ => none
    | .ifc t v => match nsnapF k get v with | some (x, i) => some (.ifc t x, i) | none => none
    | _ => none
def nsnapL : Nat → (Nat → Option Blk) → List AV → Option (List T × List Nat)
  | 0, _, _ => none
  | _ + 1, _, [] => some ([], [])
  | k + 1, get, v :: r => match nsnapF k get v, nsnapL k get r with | some (x, i), some (l, j) => some (x :: l, i ++ j) | _, _ => none
end

mutual
theorem nsnapF_eq (H : AH) : ∀ (k : Nat) (v : AV), nsnapF k (gt H) v = snapF k H v
  | 0, v => by simp only [nsnapF, snapF]
  | k + 1, v => by cases v <;> simp only [nsnapF, snapF, gt, nsnapF_eq H k, nsnapL_eq H k] <;> rfl
theorem nsnapL_eq (H : AH) : ∀ (k : Nat) (l : List AV), nsnapL k (gt H) l = snapL k H l
  | 0, l => by simp only [nsnapL, snapL]
  | k + 1, [] => by simp only [nsnapL, snapL]
  | k + 1, v :: r => by simp only [nsnapL, snapL, nsnapF_eq H k, nsnapL_eq H k]; rfl
end

noncomputable def qData (p : Option (AV × NH)) : Option T :=
  match p with
  | some (v, h) => (nsnapF 5000 h.hp.get v).map Prod.fst
  | none => none

noncomputable def qIsT (x : T) (p : Option (AV × NH)) : Bool :=
  match qData p with
  | some y => tEq y x
  | none => false

section
variable {P : Program} {tab : Tab} {eqs : TypeId → Bool}

/-- A call without unknowns whose outcome is that data: its contract. -/
theorem Runs.of_qcallT (hT : TabOK P tab) (hm : P.follows .mixedOrders = true) (hE : ∀ t y, eqs t = true → tab t = some y → y.eqOK) {ext : FuncId → List AV → Option AV}
    (hX : ∀ {f : FuncId} {args : List AV} {v : AV}, ext f args = some v → ∀ H, CallS P f args H (fun r H' => r = v ∧ H' = H)) {k : Nat} {f : FuncId} {ts : List T} {x : T}
    (h : qIsT x (qcall P tab eqs ext k f (ts.map .t) ⟨.leaf, 0, 0⟩) = true) : Runs P f ts (.t x) := by
  unfold qIsT at h
  split at h
  · rename_i y hy
    obtain rfl := tEq_ok h
    unfold qData at hy
    split at hy
    · rename_i v h' hh
      obtain ⟨H', ha, _, _, hc⟩ := qcall_ok hT hm hE hX k hh (H := []) ⟨rfl, funext fun b => by simp [Tr.get_leaf]⟩
      rw [ha.get, nsnapF_eq] at hy
      refine Runs.of_call ?_ rfl
      refine CallS.mono hc fun r H'' ⟨e1, e2⟩ => ?_
      subst e1 e2
      exact ⟨hy, rfl⟩
    · cases hy
  · cases h

theorem toTs_map : ∀ ts : List T, toTs (ts.map .t) = some ts
  | [] => rfl
  | t :: r => by simp only [List.map_cons, toTs, toT1, toTs_map r]

/-- What a contract on data gives to other closed runs. -/
theorem Runs.known {f : FuncId} {ts : List T} {x : T} (h : Runs P f ts (.t x)) (H : AH) : CallS P f (ts.map .t) H (fun r H' => r = .t x ∧ H' = H) :=
  CallS.pure h (toTs_map ts) ⟨rfl, List.append_nil H⟩

end
end Go.Proofs.YtndndphafpgpfaaGreatDoor
