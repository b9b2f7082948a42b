/-
  What data of a type looks like.
-/
import Derived.Test.YtddigcnpapfpjaaOpen
namespace Go.Proofs.Ytddigcnpapfpjaa
open Go.ChangeShapes Go.WideShapes Go.ChangeAt Go.RowKit
set_option linter.unusedVariables false
set_option linter.unusedSimpArgs false

section
variable {P : Program} {t e : TypeId} {cs : List T}

theorem HasT.bool' (ht : P.underlying t = some .bool) (h : HasT P t cs) : ∃ b, cs = [.bool b] := by
  cases h with
  | bool hu b => exact ⟨b, rfl⟩
  | int hu => rw [ht] at hu; cases hu
  | str hu => rw [ht] at hu; cases hu
  | nils hu => rw [ht] at hu; cases hu
  | vec hu => rw [ht] at hu; cases hu
  | struct hu => rw [ht] at hu; cases hu
  | array hu => rw [ht] at hu; cases hu

theorem HasT.int' {k : IntKind} (ht : P.underlying t = some (.int k)) (h : HasT P t cs) : ∃ n, cs = [.int k n] ∧ (Lit.int k n).wf = true := by
  cases h with
  | int hu n hw => rw [ht] at hu; cases hu; exact ⟨n, rfl, hw⟩
  | bool hu => rw [ht] at hu; cases hu
  | str hu => rw [ht] at hu; cases hu
  | nils hu => rw [ht] at hu; cases hu
  | vec hu => rw [ht] at hu; cases hu
  | struct hu => rw [ht] at hu; cases hu
  | array hu => rw [ht] at hu; cases hu

theorem HasT.str' (ht : P.underlying t = some .string) (h : HasT P t cs) : ∃ s, cs = [.str s] ∧ s.length ≤ reachBytes := by
  cases h with
  | str hu s hl => exact ⟨s, rfl, hl⟩
  | bool hu => rw [ht] at hu; cases hu
  | int hu => rw [ht] at hu; cases hu
  | nils hu => rw [ht] at hu; cases hu
  | vec hu => rw [ht] at hu; cases hu
  | struct hu => rw [ht] at hu; cases hu
  | array hu => rw [ht] at hu; cases hu

theorem HasT.slice' (ht : P.underlying t = some (.slice e)) (h : HasT P t cs) :
    cs = [.nils] ∨ ∃ l : List (List T), (l.length ≤ maxLen ∧ l.length * P.bytesOf e ≤ reachBytes) ∧ (∀ (i : Nat) c, l[i]? = some c → HasT P e c) ∧ cs = [.vec (P.cellsOf e) (l.map (mkElem (P.cellsOf e)))] := by
  cases h with
  | nils hu => exact .inl rfl
  | vec hu l hl hb h => rw [ht] at hu; cases hu; exact .inr ⟨l, ⟨hl, hb⟩, h, rfl⟩
  | bool hu => rw [ht] at hu; cases hu
  | int hu => rw [ht] at hu; cases hu
  | str hu => rw [ht] at hu; cases hu
  | struct hu => rw [ht] at hu; cases hu
  | array hu => rw [ht] at hu; cases hu

theorem HasT.struct' {fs : Array Field} (ht : P.underlying t = some (.struct fs)) (h : HasT P t cs) : cs.length = P.cellsOf t ∧ ∀ f ∈ fs.toList, HasT P f.type ((cs.drop f.offset).take (P.cellsOf f.type)) := by
  cases h with
  | struct hu cs hl h => rw [ht] at hu; cases hu; exact ⟨hl, h⟩
  | bool hu => rw [ht] at hu; cases hu
  | int hu => rw [ht] at hu; cases hu
  | str hu => rw [ht] at hu; cases hu
  | nils hu => rw [ht] at hu; cases hu
  | vec hu => rw [ht] at hu; cases hu
  | array hu => rw [ht] at hu; cases hu

theorem HasT.array' {n : Nat} (ht : P.underlying t = some (.array n e)) (h : HasT P t cs) : cs.length = P.cellsOf t ∧ ∀ i, i < n → HasT P e ((cs.drop (i * P.cellsOf e)).take (P.cellsOf e)) := by
  cases h with
  | array hu cs hl h => rw [ht] at hu; cases hu; exact ⟨hl, h⟩
  | bool hu => rw [ht] at hu; cases hu
  | int hu => rw [ht] at hu; cases hu
  | str hu => rw [ht] at hu; cases hu
  | nils hu => rw [ht] at hu; cases hu
  | vec hu => rw [ht] at hu; cases hu
  | struct hu => rw [ht] at hu; cases hu

theorem HasT.bytes' (ht : P.underlying t = some (.slice e)) (he : P.underlying e = some (.int .u8)) (hc : P.cellsOf e = 1) (hb1 : P.bytesOf e = 1) (h : HasT P t cs) :
    cs = [.nils] ∨ ∃ bs : List UInt8, bs.length ≤ 140737488351232 ∧ cs = [.vec 1 (bs.map fun c => T.int .u8 (c.toNat : Int))] := by
  rcases h.slice' ht with h0 | ⟨l, hl, h0, rfl⟩
  · exact .inl h0
  refine .inr ?_
  rw [hc]
  have key : ∀ l : List (List T), (∀ (i : Nat) c, l[i]? = some c → HasT P e c) → ∃ bs : List UInt8, l.map (mkElem 1) = bs.map fun c => T.int .u8 (c.toNat : Int) := by
    intro l
    induction l with
    | nil => intro _; exact ⟨[], rfl⟩
    | cons x r ih =>
      intro h
      obtain ⟨bs, hb⟩ := ih fun i c hi => h (i + 1) c hi
      obtain ⟨n, hx, hw⟩ := (h 0 x rfl).int' he
      simp only [Lit.wf, Bool.and_eq_true, decide_eq_true_eq] at hw
      have hw : 0 ≤ n ∧ n ≤ 255 := hw
      refine ⟨UInt8.ofNat n.toNat :: bs, ?_⟩
      rw [hx, List.map_cons, List.map_cons, hb]
      congr 1
      show T.int .u8 n = _
      rw [UInt8.toNat_ofNat_of_lt' (by simp [UInt8.size]; omega)]
      congr 1
      omega
  obtain ⟨bs, hb⟩ := key l h0
  rw [hb]
  exact ⟨bs, by have := congrArg List.length hb; have := hl.2; rw [hb1] at this; simp [reachBytes] at *; omega, rfl⟩

end

theorem i64_wf {a : Int} (w : (Lit.int .i64 a).wf = true) : -9223372036854775808 ≤ a ∧ a ≤ 9223372036854775807 := by
  simp only [Lit.wf, Bool.and_eq_true, decide_eq_true_eq] at w
  exact w
theorem u64_wf {a : Int} (w : (Lit.int .u64 a).wf = true) : 0 ≤ a ∧ a ≤ 18446744073709551615 := by
  simp only [Lit.wf, Bool.and_eq_true, decide_eq_true_eq] at w
  exact w

theorem trod_old {H : Type} {enc : TypeId × Value → H} {P : Program} {w : World} {base : Nat} {sp : Nat → Bool} {held : Bool} {t : TypeId} {v : Value} {d : DataW H} {ps : List MemPlace} (h : DataW.Trod enc P w base sp held t v d ps) :
    ∀ x ∈ ps, x.block < w.heap.size := by
  obtain ⟨fuel, hf⟩ := h
  exact DataW.trod_lt fuel t _ _ hf

end Go.Proofs.Ytddigcnpapfpjaa
