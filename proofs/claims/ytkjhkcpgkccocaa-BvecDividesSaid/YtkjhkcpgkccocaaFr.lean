/-
  Bits and pairs that come in are opened; they read behind the call as before.
-/
import Derived.Test.YtkjhkcpgkccocaaRows
import Derived.WalkKit
import Derived.ProofKit
import Derived.OpenShut
import Derived.ShutString
import Derived.Below
import Derived.WideKeyPair
import Derived.Test.YtkjhkcpgkccocaaQa
namespace Go.Proofs.Ytkjhkcpgkccocaa
open Go.ChangeShapes Go.WideShapes Go.ChangeAt Go.RowKit
set_option maxRecDepth 100000
set_option linter.unusedVariables false
set_option linter.unusedSimpArgs false

/-- A place of a structure. -/
structure Fld3 (P : Program) (t : TypeId) (k0 k1 k2 : IntKind) : Prop where
  fs : ∃ f0 f1 f2 : Field, P.underlying t = some (.struct #[f0, f1, f2]) ∧ (P.underlying f0.type = some (.int k0) ∧ f0.offset = 0 ∧ P.cellsOf f0.type = 1) ∧
    (P.underlying f1.type = some (.int k1) ∧ f1.offset = 1 ∧ P.cellsOf f1.type = 1) ∧ (P.underlying f2.type = some (.int k2) ∧ f2.offset = 2 ∧ P.cellsOf f2.type = 1)
  size : P.cellsOf t = 3

theorem open_three {H : Type} {enc : TypeId × Value → H} {P : Program} {W : World} {base : Nat} {sp : Nat → Bool} {held : Bool} {t : TypeId} {k0 k1 k2 : IntKind} (A : Fld3 P t k0 k1 k2)
    {r : Reach} {b0 : Nat} {v : Value} {d : DataW H} {ps : List MemPlace} (hval : Value.okWide P W r b0 t v) (hd : DataW.Trod enc P W base sp held t v d ps) :
    ∃ a b c : Int, v = .agg #[.int k0 a, .int k1 b, .int k2 c] ∧ d = .agg [.lit (.int k0 a), .lit (.int k1 b), .lit (.int k2 c)] ∧ ps = [] ∧ (Lit.int k0 a).wf = true ∧ (Lit.int k1 b).wf = true ∧ (Lit.int k2 c).wf = true := by
  obtain ⟨f0, f1, f2, hu, ⟨u0, o0, c0⟩, ⟨u1, o1, c1⟩, ⟨u2, o2, c2⟩⟩ := A.fs
  simp only [Value.okWide, hu] at hval
  obtain ⟨cs, rfl, hs, _⟩ := hval
  rw [A.size] at hs
  obtain ⟨cl⟩ := cs
  obtain ⟨x0, x1, x2, rfl⟩ : ∃ x0 x1 x2, cl = [x0, x1, x2] := by
    match cl, hs with
    | [x0, x1, x2], _ => exact ⟨x0, x1, x2, rfl⟩
  obtain ⟨fuel, hf⟩ := hd
  cases fuel with
  | zero => simp [DataW.trod] at hf
  | succ n =>
    unfold DataW.trod at hf
    simp only [hu, Value.cells] at hf
    rw [if_pos (by rw [A.size]; rfl)] at hf
    simp only [Option.map_eq_some_iff] at hf
    obtain ⟨xs, hx, e1⟩ := hf
    rw [List.mapM_cons, List.mapM_cons, List.mapM_cons, List.mapM_nil] at hx
    simp only [bind, Option.bind_eq_some_iff, pure, Option.some.injEq, o0, o1, o2, c0, c1, c2] at hx
    obtain ⟨y0, h0, _, ⟨y1, h1, _, ⟨y2, h2, _, rfl, rfl⟩, rfl⟩, rfl⟩ := hx
    obtain ⟨a, ea, rfl, wa⟩ := DataW.trod_int u0 h0
    obtain ⟨b, eb, rfl, wb⟩ := DataW.trod_int u1 h1
    obtain ⟨c, ec, rfl, wc⟩ := DataW.trod_int u2 h2
    simp at ea eb ec
    subst ea; subst eb; subst ec
    simp only [Prod.mk.injEq] at e1
    exact ⟨a, b, c, rfl, by rw [← e1.1]; rfl, by rw [← e1.2]; rfl, wa, wb, wc⟩

theorem shut_three {H : Type} {enc : TypeId × Value → H} {P : Program} {W : World} {base : Nat} {sp : Nat → Bool} {held : Bool} {t : TypeId} {k0 k1 k2 : IntKind} (A : Fld3 P t k0 k1 k2)
    {a b c : Int} (wa : (Lit.int k0 a).wf = true) (wb : (Lit.int k1 b).wf = true) (wc : (Lit.int k2 c).wf = true) :
    DataW.Trod enc P W base sp held t (.agg #[.int k0 a, .int k1 b, .int k2 c]) (.agg [.lit (.int k0 a), .lit (.int k1 b), .lit (.int k2 c)]) [] := by
  obtain ⟨f0, f1, f2, hu, ⟨u0, o0, c0⟩, ⟨u1, o1, c1⟩, ⟨u2, o2, c2⟩⟩ := A.fs
  refine ⟨2, ?_⟩
  show DataW.trod enc P W base sp held (1 + 1) t [.int k0 a, .int k1 b, .int k2 c] = _
  unfold DataW.trod
  simp only [hu]
  rw [if_pos (by rw [A.size]; rfl)]
  rw [List.mapM_cons, List.mapM_cons, List.mapM_cons, List.mapM_nil]
  simp [o0, o1, o2, c0, c1, c2, DataW.trod, u0, u1, u2, wa, wb, wc]

theorem bitsFld : Fld3 Try.prog 25 .i64 .u64 .u64 :=
  ⟨⟨{ name := "W", type := 3, offset := 0, embedded := false, tag := "", pkgPath := "", byteOffset := 0 }, { name := "Hi", type := 23, offset := 1, embedded := false, tag := "", pkgPath := "", byteOffset := 8 }, { name := "Lo", type := 23, offset := 2, embedded := false, tag := "", pkgPath := "", byteOffset := 16 }, by kernel_rfl, ⟨by kernel_rfl, by kernel_rfl, by kernel_rfl⟩, ⟨by kernel_rfl, by kernel_rfl, by kernel_rfl⟩, ⟨by kernel_rfl, by kernel_rfl, by kernel_rfl⟩⟩, by kernel_rfl⟩

/-- Bits that came in, as a width and a number. -/
theorem bits_rt {w : World} {M : Nat → Prop} {a b c : Int} (wb : (Lit.int .u64 b).wf = true) (wc : (Lit.int .u64 c).wf = true) :
    ∃ n : Nat, n < 2 ^ 128 ∧ RT w M (bt a n) (.agg #[.int .i64 a, .int .u64 b, .int .u64 c]) := by
  simp only [Lit.wf, Bool.and_eq_true, decide_eq_true_eq] at wb wc
  have hb : 0 ≤ b ∧ b ≤ 18446744073709551615 := wb
  have hc : 0 ≤ c ∧ c ≤ 18446744073709551615 := wc
  obtain ⟨n, hn⟩ := Int.eq_ofNat_of_zero_le (show 0 ≤ b * 18446744073709551616 + c by omega)
  have e1 : b = ((n / 18446744073709551616 : Nat) : Int) := by omega
  have e2 : c = ((n % 18446744073709551616 : Nat) : Int) := by omega
  refine ⟨n, by omega, ?_⟩
  rw [e1, e2]
  refine .agg _ _ rfl (fun i x hx => ?_) (fun i x v hx hv => ?_)
  · match i with
    | 0 => cases hx; rfl
    | 1 => cases hx; rfl
    | 2 => cases hx; rfl
    | i + 3 => simp at hx
  · match i with
    | 0 => cases hx; cases hv; exact .int _ _
    | 1 => cases hx; cases hv; exact .int _ _
    | 2 => cases hx; cases hv; exact .int _ _
    | i + 3 => simp at hx

theorem pair_rt {w : World} {M : Nat → Prop} (a b : Int) : RT w M (.agg [.int .i64 a, .int .i64 b]) (.agg #[.int .i64 a, .int .i64 b]) := by
  refine .agg _ _ rfl (fun i x hx => ?_) (fun i x v hx hv => ?_)
  · match i with
    | 0 => cases hx; rfl
    | 1 => cases hx; rfl
    | i + 2 => simp at hx
  · match i with
    | 0 => cases hx; cases hv; exact .int _ _
    | 1 => cases hx; cases hv; exact .int _ _
    | i + 2 => simp at hx

theorem i64_wf {a : Int} (w : (Lit.int .i64 a).wf = true) : -9223372036854775808 ≤ a ∧ a ≤ 9223372036854775807 := by
  simp only [Lit.wf, Bool.and_eq_true, decide_eq_true_eq] at w
  exact w

end Go.Proofs.Ytkjhkcpgkccocaa
