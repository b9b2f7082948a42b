/-
  Closed runs with callees whose contract is known, memory too.
-/
import Derived.Test.YthpkehhghcpolaaDoorQPack
namespace Go.Proofs.YthpkehhghcpolaaDoor
open Go.RowKit
set_option linter.unusedVariables false
set_option linter.unusedSimpArgs false

/-- What is known without memory. -/
noncomputable def liftE (e : FuncId → List AV → Option AV) : CallN := fun f args h => @Option.rec AV (fun _ => Option (AV × NH)) none (fun v => some (v, h)) (e f args)

/-- First this, then that. -/
noncomputable def orE (a b : CallN) : CallN := fun f args h => @Option.rec (AV × NH) (fun _ => Option (AV × NH)) (b f args h) (fun r => some r) (a f args h)

/-- A call: of what is known, or of a function's body. -/
noncomputable def qcallH (P : Program) (tab : Tab) (eqs : TypeId → Bool) (ext : CallN) (k : Nat) : CallN :=
  @Nat.rec (fun _ => CallN) (fun _ _ _ => none)
    (fun k go f args h => @Option.rec (AV × NH) (fun _ => Option (AV × NH)) (@Option.rec QD (fun _ => Option (AV × NH)) (NOpt (qof P tab f) (qgo tab eqs go k args h)) (qgoD tab eqs go k args h) (qofD P tab f)) (fun r => some r) (ext f args h)) k

section
variable {P : Program} {tab : Tab} {eqs : TypeId → Bool}

theorem liftE_ok {e : FuncId → List AV → Option AV} (hX : ∀ {f : FuncId} {args : List AV} {v : AV}, e f args = some v → ∀ H, CallS P f args H (fun r H' => r = v ∧ H' = H)) : CallOK P (liftE e) := by
  intro f args h v h' hh H ha
  unfold liftE at hh
  cases hx : e f args with
  | none => rw [hx] at hh; cases hh
  | some u => rw [hx] at hh; cases hh; exact ⟨H, ha, Stay.refl _ _, Nat.le_refl _, hX hx H⟩

theorem orE_ok {a b : CallN} (h1 : CallOK P a) (h2 : CallOK P b) : CallOK P (orE a b) := by
  intro f args h v h' hh H ha
  unfold orE at hh
  cases hx : a f args h with
  | none => rw [hx] at hh; exact h2 hh ha
  | some u => rw [hx] at hh; cases hh; exact h1 hx ha

theorem qcallH_ok (hT : TabOK P tab) (hm : P.follows .mixedOrders = true) (hE : ∀ t y, eqs t = true → tab t = some y → y.eqOK) {ext : CallN} (hX : CallOK P ext) : ∀ k, CallOK P (qcallH P tab eqs ext k)
  | 0 => by intro hh; cases hh
  | k + 1 => by
    intro hh H ha
    rename_i f args h v h'
    have hh : @Option.rec (AV × NH) (fun _ => Option (AV × NH)) (@Option.rec QD (fun _ => Option (AV × NH)) (NOpt (qof P tab f) (qgo tab eqs (qcallH P tab eqs ext k) k args h)) (qgoD tab eqs (qcallH P tab eqs ext k) k args h) (qofD P tab f)) (fun r => some r) (ext f args h) = some (v, h') := hh
    cases hx : ext f args h with
    | some u =>
      rw [hx] at hh
      cases hh
      exact hX hx ha
    | none =>
      rw [hx] at hh
      cases hd : qofD P tab f with
      | some d =>
        rw [hd] at hh
        exact qgoD_ok hT hm (qcallH_ok hT hm hE hX k) hE hd hh ha
      | none =>
      rw [hd] at hh
      have hh : NOpt (qof P tab f) (qgo tab eqs (qcallH P tab eqs ext k) k args h) = some (v, h') := hh
      rw [nopt_iff] at hh
      obtain ⟨q, hq, hh⟩ := hh
      exact qgo_ok hT hm (qcallH_ok hT hm hE hX k) hE hq hh ha

/-- A call without unknowns whose outcome is a truth value: its contract. -/
theorem Runs.of_qcallH (hT : TabOK P tab) (hm : P.follows .mixedOrders = true) (hE : ∀ t y, eqs t = true → tab t = some y → y.eqOK) {ext : CallN} (hX : CallOK P ext) {k : Nat} {f : FuncId} {b : Bool}
    (h : qIs b (qcallH P tab eqs ext k f [] ⟨.leaf, 0, 0⟩) = true) : Runs P f [] (.t (.bool b)) := by
  unfold qIs at h
  split at h
  · rename_i c h' hh
    obtain ⟨H', _, _, _, hc⟩ := qcallH_ok hT hm hE hX k hh (H := []) ⟨rfl, funext fun b => by simp [Tr.get_leaf]⟩
    obtain rfl := eq_of_beq h
    refine Runs.of_call ?_ rfl
    refine CallS.mono hc fun r H'' ⟨e1, e2⟩ => ?_
    subst e1
    exact ⟨rfl, rfl⟩
  · cases h

end
end Go.Proofs.YthpkehhghcpolaaDoor
