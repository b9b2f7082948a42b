/-
  What the model itself knows of math/bits.Add64, for closed runs.
-/
import Derived.Test.YtndndphafpgpfaaGreatDoorGb
import Derived.Lib.Mul64
namespace Go.Proofs.YtndndphafpgpfaaGreatDoor
open Go.IntWalk
set_option maxRecDepth 100000
set_option linter.unusedVariables false
set_option linter.unusedSimpArgs false

theorem add64_runs (x y c : Nat) (hc : c ≤ 1) : Runs Tryz.prog 223 [.int .u64 (x : Int), .int .u64 (y : Int), .int .u64 (c : Int)]
    (.tup [.t (.int .u64 (((x + y + c) % 18446744073709551616 : Nat) : Int)), .t (.int .u64 (((x + y + c) / 18446744073709551616 : Nat) : Int))]) := by
  refine Runs.of_extern Tryz.func223 (by kernel_rfl) (by kernel_rfl) (by kernel_rfl) (e := add64Entry) (by kernel_rfl) (fun w vs F hl hr => ?_) rfl (fun _ => rfl)
  have hv : vs = #[.int .u64 (x : Int), .int .u64 (y : Int), .int .u64 (c : Int)] := by
    obtain ⟨l⟩ := vs
    match l, hl, hr with
    | [a, b, d], _, hr =>
      have h1 := hr 0 _ a rfl rfl
      have h2 := hr 1 _ b rfl rfl
      have h3 := hr 2 _ d rfl rfl
      cases h1; cases h2; cases h3; rfl
  subst hv
  refine ⟨_, run_add64 x y c (by omega) (by omega) (by omega) (by omega) w, fun c' H _ => ?_⟩
  refine .tup _ _ rfl fun i x v hi hv => ?_
  match i with
  | 0 => simp at hi hv; subst hi hv; exact .t _ _ (.int _ _)
  | 1 => simp at hi hv; subst hi hv; exact .t _ _ (.int _ _)
  | i + 2 => simp at hi

noncomputable def extA (e : FuncId → List AV → Option AV) : FuncId → List AV → Option AV := fun f args =>
  match Nat.beq f 223, args with
  | true, [.t (.int .u64 (.ofNat x)), .t (.int .u64 (.ofNat y)), .t (.int .u64 (.ofNat c))] =>
    (match Nat.ble c 1 with
    | true => fN (Nat.mod (Nat.add (Nat.add x y) c) 18446744073709551616) fun a => fN (Nat.div (Nat.add (Nat.add x y) c) 18446744073709551616) fun b => some (.tup [.t (.int .u64 (.ofNat a)), .t (.int .u64 (.ofNat b))])
    | false => none)
  | _, _ => e f args

theorem extA_ok {e : FuncId → List AV → Option AV} (he : ∀ {f : FuncId} {args : List AV} {v : AV}, e f args = some v → ∀ H, CallS Tryz.prog f args H (fun r H' => r = v ∧ H' = H)) :
    ∀ {f : FuncId} {args : List AV} {v : AV}, extA e f args = some v → ∀ H, CallS Tryz.prog f args H (fun r H' => r = v ∧ H' = H) := by
  intro f args v hh H
  unfold extA at hh
  split at hh
  · rename_i x y c hf
    split at hh
    · rename_i hc
      simp only [fN_eq] at hh
      cases hh
      obtain rfl := Nat.eq_of_beq_eq_true hf
      exact CallS.pure (add64_runs x y c (Nat.le_of_ble_eq_true hc)) rfl ⟨rfl, List.append_nil H⟩
    · cases hh
  · exact he hh H
end Go.Proofs.YtndndphafpgpfaaGreatDoor
