/-
  Do all of a list hold?
-/
import Derived.Test.YtcogcbplmkcojaaGreatDoorWc
import Derived.Test.YtcogcbplmkcojaaGreatDoorFg
namespace Go.Proofs.YtcogcbplmkcojaaGreatDoor
open Go.IntWalk
set_option maxRecDepth 100000
set_option linter.unusedVariables false
set_option linter.unusedSimpArgs false
set_option maxHeartbeats 1000000
theorem dW {k0 : Nat} {body : (Ex → St → Prop) → St → Prop} {Q : Ex → St → Prop} {s : St} (J : Ex → St → Prop) (h : ∀ Q', (∀ e s', J e s' → Q' e s') → uq k0 body Q' s) (hJ : ∀ e s', J e s' → Q e s') : uq k0 body Q s := h Q hJ
theorem get_some {α : Type} {R : List α} {i : Nat} (h : i < R.length) : ∃ x, R[i]? = some x ∧ x ∈ R := ⟨R[i], List.getElem?_eq_getElem h, List.getElem_mem h⟩
theorem ag {n : Nat} (h : n ≤ 9223372036854775807) : IntKind.i64.wrap (n : Int) = n := by rw [IntKind.wrap_i64]; omega
theorem dn {a b : Nat} (c : decide ((a : Int) < (b : Int)) = true) : a < b := by have := of_decide_eq_true c; omega
theorem dE {a b : Nat} (c : decide ((a : Int) < (b : Int)) = false) : b ≤ a := by have := of_decide_eq_false c; omega
theorem eh {α : Type} {l : List α} {i : Nat} {x : α} {P : α → Prop} (hx : l[i]? = some x) (h : ∀ y ∈ l.take i, P y) (hp : P x) : ∀ y ∈ l.take (i + 1), P y := fun y hy => by
 have hi : i < l.length := by
  rcases Nat.lt_or_ge i l.length with h | h
  ·exact h
  ·rw [List.getElem?_eq_none h] at hx; cases hx
 rw [List.take_succ_eq_append_getElem hi] at hy
 rcases List.mem_append.1 hy with hy | hy
 ·exact h y hy
 ·rw [List.mem_singleton.1 hy]; rw [List.getElem?_eq_getElem hi] at hx; cases hx; exact hp
def nW (P : Prop) (r : AV) : Prop := ∃ b : Bool, r = .t (.bool b) ∧ (b = true → P)
theorem nW.aL {P : Prop} : ∀ r, nW P r → aL r = true := by rintro r ⟨b, rfl, _⟩; rfl
theorem nW.flat {P : Prop} : ∀ r, nW P r → Flat r := by rintro r ⟨b, rfl, _⟩; exact (show gS (.bool b) = true from rfl)
theorem φ.yes {P : Program} {f : FuncId} {ts : List T} {b : Bool} {p : Prop} (h : φ P f ts (.t (.bool b))) (hp : b = true → p) : af P f ts (nW p) :=
 ⟨nW.aL, fun n F w vs hF hl hr => (h.2 n F w vs hF hl hr).mono fun e w' ⟨v, G, h1⟩ => ⟨_, v, G, ⟨b, rfl, hp⟩, h1⟩⟩
def aO (P : Prop) (r : AV) : Prop := ∃ b : Bool, r = .t (.bool b) ∧ (b = true ↔ P)
theorem aO.aL {P : Prop} : ∀ r, aO P r → aL r = true := by rintro r ⟨b, rfl, _⟩; rfl
theorem aO.flat {P : Prop} : ∀ r, aO P r → Flat r := by rintro r ⟨b, rfl, _⟩; exact (show gS (.bool b) = true from rfl)
theorem ae {P : Prop} {H : AH} (h : ¬ P) : ∃ r, aO P r ∧ j8 r (.t (.bool false)) H := ⟨_, ⟨false, rfl, ⟨fun e => (by cases e), fun e => absurd e h⟩⟩, _, _, rfl, .refl _⟩
theorem aU {P : Prop} {H : AH} {b : Bool} (h : b = true ↔ P) : ∃ r, aO P r ∧ j8 r (.t (.bool b)) H := ⟨_, ⟨b, rfl, h⟩, _, _, rfl, .refl _⟩
theorem φ.iff {P : Program} {f : FuncId} {ts : List T} {b : Bool} {p : Prop} (h : φ P f ts (.t (.bool b))) (hp : b = true ↔ p) : af P f ts (aO p) :=
 ⟨aO.aL, fun n F w vs hF hl hr => (h.2 n F w vs hF hl hr).mono fun e w' ⟨v, G, h1⟩ => ⟨_, v, G, ⟨b, rfl, hp⟩, h1⟩⟩
theorem BU (G : FuncId) (l : List h_) (P : h_ → Prop) (hl : l.length ≤ 9223372036854775807)
 (hh : ∀ x ∈ l, af Tryz.prog G [dz x] (aO (P x))) : af Tryz.prog 62 [.κ 4 (l.map dz), .fn (.func G) [] []] (aO (∀ x ∈ l, P x)) := by
 have eT : (l.map dz).length = l.length := by simp
 refine af.Λ ?_ aO.aL
 refine γ.ο ζ η Tryz.func62 rfl rfl ?_
 refine γ.ο ζ η Tryz.func119 rfl rfl ?_
 refine γ.ο ζ η Tryz.func164 rfl rfl ?_
 refine ak (fun i : Nat => i ≤ l.length ∧ ∀ x ∈ l.take i, P x) (fun i => ⟨[(0, .t (.κ 4 (l.map dz))), (1, .fn (.func 120) [] [.ptr 0 0 0 0]), (7, .t (.int .i64 ((l.map dz).length : Int))), (8, .t (.int .i64 i))], [.box [.t (.fn (.func G) [] [])]]⟩)
  (fun i => l.length - i) 0 ⟨Nat.zero_le _, by simp⟩ ?_ (fun i hi => ?_)
 ·exact a8 ⟨rfl, rfl, rfl, rfl, trivial⟩ rfl
 obtain ⟨hi, hP⟩ := hi
 refine U (fun c => ?_) (fun c => ?_)
 ·have c : i < l.length := by have := dn c; omega
  obtain ⟨x, hx, cX⟩ := get_some (R := l) (i := i) c
  have hh := hh x cX
  refine ξ (show (l.map dz)[((i : Nat) : Int).toNat]? = some (dz x) from by rw [Int.toNat_natCast, List.getElem?_map, hx]; rfl) ?_
  refine γ.ο ζ η Tryz.func120 rfl rfl ?_
  refine γ.cD hh rfl ⟨.refl _, trivial⟩ ?_
  rintro r ⟨b, rfl, hb⟩
  refine U (fun c2 => ?_) (fun c2 => ?_)
  ·have c2 : b = false := by simpa using c2
   refine ⟨_, ⟨false, rfl, ⟨fun h => (by cases h), fun h => absurd (hb.2 (h _ cX)) (by rw [c2]; decide)⟩⟩, _, _, rfl, .of_eq ?_⟩
   exact congrArg T.bool (by simp)
  ·have hb := hb.1 (by simpa using c2)
   refine δ (n := ((i + 1 : Nat) : Int)) (ag (n := i + 1) (by omega)) ?_
   conv => whnf
   exact ⟨⟨i + 1, ⟨c, eh hx hP hb⟩⟩, π [0] rfl ⟨rfl, rfl, rfl, rfl, trivial⟩ ⟨rfl, trivial⟩, by show l.length - (i + 1) < l.length - i; omega⟩
 ·have c : i = l.length := by have := dE c; omega
  refine ⟨_, ⟨true, rfl, ⟨fun _ => by rw [c, List.take_length] at hP; exact hP, fun _ => rfl⟩⟩, _, _, rfl, .of_eq ?_⟩
  exact congrArg T.bool (by simp)
theorem Bo (G : FuncId) (C : T) (l : List dw) (P : dw → Prop) (hl : l.length ≤ 9223372036854775807)
 (hh : ∀ x ∈ l, af Tryz.prog G [C, bl x] (aO (P x))) : af Tryz.prog 64 [.κ 3 (l.map bl), .fn (.func G) [C] []] (aO (∀ x ∈ l, P x)) := by
 have eT : (l.map bl).length = l.length := by simp
 refine af.Λ ?_ aO.aL
 refine γ.ο ζ η Tryz.func64 rfl rfl ?_
 refine γ.ο ζ η Tryz.func121 rfl rfl ?_
 refine γ.ο ζ η Tryz.func165 rfl rfl ?_
 refine ak (fun i : Nat => i ≤ l.length ∧ ∀ x ∈ l.take i, P x) (fun i => ⟨[(0, .t (.κ 3 (l.map bl))), (1, .fn (.func 122) [] [.ptr 0 0 0 0]), (7, .t (.int .i64 ((l.map bl).length : Int))), (8, .t (.int .i64 i))], [.box [.t (.fn (.func G) [C] [])]]⟩)
  (fun i => l.length - i) 0 ⟨Nat.zero_le _, by simp⟩ ?_ (fun i hi => ?_)
 ·exact a8 ⟨rfl, rfl, rfl, rfl, trivial⟩ rfl
 obtain ⟨hi, hP⟩ := hi
 refine U (fun c => ?_) (fun c => ?_)
 ·have c : i < l.length := by have := dn c; omega
  obtain ⟨x, hx, cX⟩ := get_some (R := l) (i := i) c
  have hh := hh x cX
  refine ξ (show (l.map bl)[((i : Nat) : Int).toNat]? = some (bl x) from by rw [Int.toNat_natCast, List.getElem?_map, hx]; rfl) ?_
  refine γ.ο ζ η Tryz.func122 rfl rfl ?_
  refine γ.cD hh rfl ⟨.refl _, .refl _, trivial⟩ ?_
  rintro r ⟨b, rfl, hb⟩
  refine U (fun c2 => ?_) (fun c2 => ?_)
  ·have c2 : b = false := by simpa using c2
   refine ⟨_, ⟨false, rfl, ⟨fun h => (by cases h), fun h => absurd (hb.2 (h _ cX)) (by rw [c2]; decide)⟩⟩, _, _, rfl, .of_eq ?_⟩
   exact congrArg T.bool (by simp)
  ·have hb := hb.1 (by simpa using c2)
   refine δ (n := ((i + 1 : Nat) : Int)) (ag (n := i + 1) (by omega)) ?_
   conv => whnf
   exact ⟨⟨i + 1, ⟨c, eh hx hP hb⟩⟩, π [0] rfl ⟨rfl, rfl, rfl, rfl, trivial⟩ ⟨rfl, trivial⟩, by show l.length - (i + 1) < l.length - i; omega⟩
 ·have c : i = l.length := by have := dE c; omega
  refine ⟨_, ⟨true, rfl, ⟨fun _ => by rw [c, List.take_length] at hP; exact hP, fun _ => rfl⟩⟩, _, _, rfl, .of_eq ?_⟩
  exact congrArg T.bool (by simp)
theorem Bn (G : FuncId) (C : T) (l : List dN) (P : dN → Prop) (hl : l.length ≤ 9223372036854775807)
 (hh : ∀ x ∈ l, af Tryz.prog G [C, aV x] (aO (P x))) : af Tryz.prog 66 [.κ 7 (l.map aV), .fn (.func G) [C] []] (aO (∀ x ∈ l, P x)) := by
 have eT : (l.map aV).length = l.length := by simp
 refine af.Λ ?_ aO.aL
 refine γ.ο ζ η Tryz.func66 rfl rfl ?_
 refine γ.ο ζ η Tryz.func123 rfl rfl ?_
 refine γ.ο ζ η Tryz.func166 rfl rfl ?_
 refine ak (fun i : Nat => i ≤ l.length ∧ ∀ x ∈ l.take i, P x) (fun i => ⟨[(0, .t (.κ 7 (l.map aV))), (1, .fn (.func 124) [] [.ptr 0 0 0 0]), (7, .t (.int .i64 ((l.map aV).length : Int))), (8, .t (.int .i64 i))], [.box [.t (.fn (.func G) [C] [])]]⟩)
  (fun i => l.length - i) 0 ⟨Nat.zero_le _, by simp⟩ ?_ (fun i hi => ?_)
 ·exact a8 ⟨rfl, rfl, rfl, rfl, trivial⟩ rfl
 obtain ⟨hi, hP⟩ := hi
 refine U (fun c => ?_) (fun c => ?_)
 ·have c : i < l.length := by have := dn c; omega
  obtain ⟨x, hx, cX⟩ := get_some (R := l) (i := i) c
  have hh := hh x cX
  refine ξ (show (l.map aV)[((i : Nat) : Int).toNat]? = some (aV x) from by rw [Int.toNat_natCast, List.getElem?_map, hx]; rfl) ?_
  refine γ.ο ζ η Tryz.func124 rfl rfl ?_
  refine γ.cD hh rfl ⟨.refl _, .refl _, trivial⟩ ?_
  rintro r ⟨b, rfl, hb⟩
  refine U (fun c2 => ?_) (fun c2 => ?_)
  ·have c2 : b = false := by simpa using c2
   refine ⟨_, ⟨false, rfl, ⟨fun h => (by cases h), fun h => absurd (hb.2 (h _ cX)) (by rw [c2]; decide)⟩⟩, _, _, rfl, .of_eq ?_⟩
   exact congrArg T.bool (by simp)
  ·have hb := hb.1 (by simpa using c2)
   refine δ (n := ((i + 1 : Nat) : Int)) (ag (n := i + 1) (by omega)) ?_
   conv => whnf
   exact ⟨⟨i + 1, ⟨c, eh hx hP hb⟩⟩, π [0] rfl ⟨rfl, rfl, rfl, rfl, trivial⟩ ⟨rfl, trivial⟩, by show l.length - (i + 1) < l.length - i; omega⟩
 ·have c : i = l.length := by have := dE c; omega
  refine ⟨_, ⟨true, rfl, ⟨fun _ => by rw [c, List.take_length] at hP; exact hP, fun _ => rfl⟩⟩, _, _, rfl, .of_eq ?_⟩
  exact congrArg T.bool (by simp)
theorem D6 (G : FuncId) (D0 : T) (l : List cU) (P : cU → Prop) (hl : l.length ≤ 9223372036854775807)
 (hh : ∀ x ∈ l, af Tryz.prog G [Φ x, D0] (aO (P x))) : af Tryz.prog 103 [.κ 2 (l.map Φ), .fn (.func G) [] [D0]] (aO (∀ x ∈ l, P x)) := by
 have eT : (l.map Φ).length = l.length := by simp
 refine af.Λ ?_ aO.aL
 refine γ.ο ζ η Tryz.func103 rfl rfl ?_
 refine γ.ο ζ η Tryz.func79 rfl rfl ?_
 refine γ.ο ζ η Tryz.func129 rfl rfl ?_
 refine ak (fun i : Nat => i ≤ l.length ∧ ∀ x ∈ l.take i, P x) (fun i => ⟨[(0, .t (.κ 2 (l.map Φ))), (1, .fn (.func 152) [] [.ptr 0 0 0 0]), (7, .t (.int .i64 ((l.map Φ).length : Int))), (8, .t (.int .i64 i))], [.box [.t (.fn (.func G) [] [D0])]]⟩)
  (fun i => l.length - i) 0 ⟨Nat.zero_le _, by simp⟩ ?_ (fun i hi => ?_)
 ·exact a8 ⟨rfl, rfl, rfl, rfl, trivial⟩ rfl
 obtain ⟨hi, hP⟩ := hi
 refine U (fun c => ?_) (fun c => ?_)
 ·have c : i < l.length := by have := dn c; omega
  obtain ⟨x, hx, cX⟩ := get_some (R := l) (i := i) c
  have hh := hh x cX
  refine ξ (show (l.map Φ)[((i : Nat) : Int).toNat]? = some (Φ x) from by rw [Int.toNat_natCast, List.getElem?_map, hx]; rfl) ?_
  refine γ.ο ζ η Tryz.func152 rfl rfl ?_
  refine γ.cD hh rfl ⟨.refl _, .refl _, trivial⟩ ?_
  rintro r ⟨b, rfl, hb⟩
  refine U (fun c2 => ?_) (fun c2 => ?_)
  ·have c2 : b = false := by simpa using c2
   refine ⟨_, ⟨false, rfl, ⟨fun h => (by cases h), fun h => absurd (hb.2 (h _ cX)) (by rw [c2]; decide)⟩⟩, _, _, rfl, .of_eq ?_⟩
   exact congrArg T.bool (by simp)
  ·have hb := hb.1 (by simpa using c2)
   refine δ (n := ((i + 1 : Nat) : Int)) (ag (n := i + 1) (by omega)) ?_
   conv => whnf
   exact ⟨⟨i + 1, ⟨c, eh hx hP hb⟩⟩, π [0] rfl ⟨rfl, rfl, rfl, rfl, trivial⟩ ⟨rfl, trivial⟩, by show l.length - (i + 1) < l.length - i; omega⟩
 ·have c : i = l.length := by have := dE c; omega
  refine ⟨_, ⟨true, rfl, ⟨fun _ => by rw [c, List.take_length] at hP; exact hP, fun _ => rfl⟩⟩, _, _, rfl, .of_eq ?_⟩
  exact congrArg T.bool (by simp)
theorem D5 (G : FuncId) (C : T) (l : List gY) (P : gY → Prop) (hl : l.length ≤ 9223372036854775807)
 (hh : ∀ x ∈ l, af Tryz.prog G [C, ei x] (aO (P x))) : af Tryz.prog 82 [.κ 17 (l.map ei), .fn (.func G) [C] []] (aO (∀ x ∈ l, P x)) := by
 have eT : (l.map ei).length = l.length := by simp
 refine af.Λ ?_ aO.aL
 refine γ.ο ζ η Tryz.func82 rfl rfl ?_
 refine γ.ο ζ η Tryz.func130 rfl rfl ?_
 refine γ.ο ζ η Tryz.func171 rfl rfl ?_
 refine ak (fun i : Nat => i ≤ l.length ∧ ∀ x ∈ l.take i, P x) (fun i => ⟨[(0, .t (.κ 17 (l.map ei))), (1, .fn (.func 131) [] [.ptr 0 0 0 0]), (7, .t (.int .i64 ((l.map ei).length : Int))), (8, .t (.int .i64 i))], [.box [.t (.fn (.func G) [C] [])]]⟩)
  (fun i => l.length - i) 0 ⟨Nat.zero_le _, by simp⟩ ?_ (fun i hi => ?_)
 ·exact a8 ⟨rfl, rfl, rfl, rfl, trivial⟩ rfl
 obtain ⟨hi, hP⟩ := hi
 refine U (fun c => ?_) (fun c => ?_)
 ·have c : i < l.length := by have := dn c; omega
  obtain ⟨x, hx, cX⟩ := get_some (R := l) (i := i) c
  have hh := hh x cX
  refine ξ (show (l.map ei)[((i : Nat) : Int).toNat]? = some (ei x) from by rw [Int.toNat_natCast, List.getElem?_map, hx]; rfl) ?_
  refine γ.ο ζ η Tryz.func131 rfl rfl ?_
  refine γ.cD hh rfl ⟨.refl _, .refl _, trivial⟩ ?_
  rintro r ⟨b, rfl, hb⟩
  refine U (fun c2 => ?_) (fun c2 => ?_)
  ·have c2 : b = false := by simpa using c2
   refine ⟨_, ⟨false, rfl, ⟨fun h => (by cases h), fun h => absurd (hb.2 (h _ cX)) (by rw [c2]; decide)⟩⟩, _, _, rfl, .of_eq ?_⟩
   exact congrArg T.bool (by simp)
  ·have hb := hb.1 (by simpa using c2)
   refine δ (n := ((i + 1 : Nat) : Int)) (ag (n := i + 1) (by omega)) ?_
   conv => whnf
   exact ⟨⟨i + 1, ⟨c, eh hx hP hb⟩⟩, π [0] rfl ⟨rfl, rfl, rfl, rfl, trivial⟩ ⟨rfl, trivial⟩, by show l.length - (i + 1) < l.length - i; omega⟩
 ·have c : i = l.length := by have := dE c; omega
  refine ⟨_, ⟨true, rfl, ⟨fun _ => by rw [c, List.take_length] at hP; exact hP, fun _ => rfl⟩⟩, _, _, rfl, .of_eq ?_⟩
  exact congrArg T.bool (by simp)
theorem D4 (G : FuncId) (D0 : T) (l : List nX) (P : nX → Prop) (hl : l.length ≤ 9223372036854775807)
 (hh : ∀ x ∈ l, af Tryz.prog G [fE x, D0] (aO (P x))) : af Tryz.prog 84 [.κ 4 (l.map fE), .fn (.func G) [] [D0]] (aO (∀ x ∈ l, P x)) := by
 have eT : (l.map fE).length = l.length := by simp
 refine af.Λ ?_ aO.aL
 refine γ.ο ζ η Tryz.func84 rfl rfl ?_
 refine γ.ο ζ η Tryz.func134 rfl rfl ?_
 refine γ.ο ζ η Tryz.func172 rfl rfl ?_
 refine ak (fun i : Nat => i ≤ l.length ∧ ∀ x ∈ l.take i, P x) (fun i => ⟨[(0, .t (.κ 4 (l.map fE))), (1, .fn (.func 135) [] [.ptr 0 0 0 0]), (7, .t (.int .i64 ((l.map fE).length : Int))), (8, .t (.int .i64 i))], [.box [.t (.fn (.func G) [] [D0])]]⟩)
  (fun i => l.length - i) 0 ⟨Nat.zero_le _, by simp⟩ ?_ (fun i hi => ?_)
 ·exact a8 ⟨rfl, rfl, rfl, rfl, trivial⟩ rfl
 obtain ⟨hi, hP⟩ := hi
 refine U (fun c => ?_) (fun c => ?_)
 ·have c : i < l.length := by have := dn c; omega
  obtain ⟨x, hx, cX⟩ := get_some (R := l) (i := i) c
  have hh := hh x cX
  refine ξ (show (l.map fE)[((i : Nat) : Int).toNat]? = some (fE x) from by rw [Int.toNat_natCast, List.getElem?_map, hx]; rfl) ?_
  refine γ.ο ζ η Tryz.func135 rfl rfl ?_
  refine γ.cD hh rfl ⟨.refl _, .refl _, trivial⟩ ?_
  rintro r ⟨b, rfl, hb⟩
  refine U (fun c2 => ?_) (fun c2 => ?_)
  ·have c2 : b = false := by simpa using c2
   refine ⟨_, ⟨false, rfl, ⟨fun h => (by cases h), fun h => absurd (hb.2 (h _ cX)) (by rw [c2]; decide)⟩⟩, _, _, rfl, .of_eq ?_⟩
   exact congrArg T.bool (by simp)
  ·have hb := hb.1 (by simpa using c2)
   refine δ (n := ((i + 1 : Nat) : Int)) (ag (n := i + 1) (by omega)) ?_
   conv => whnf
   exact ⟨⟨i + 1, ⟨c, eh hx hP hb⟩⟩, π [0] rfl ⟨rfl, rfl, rfl, rfl, trivial⟩ ⟨rfl, trivial⟩, by show l.length - (i + 1) < l.length - i; omega⟩
 ·have c : i = l.length := by have := dE c; omega
  refine ⟨_, ⟨true, rfl, ⟨fun _ => by rw [c, List.take_length] at hP; exact hP, fun _ => rfl⟩⟩, _, _, rfl, .of_eq ?_⟩
  exact congrArg T.bool (by simp)
theorem xL (G : FuncId) (D0 : T) (l : List d_) (P : d_ → Prop) (hl : l.length ≤ 9223372036854775807)
 (hh : ∀ x ∈ l, af Tryz.prog G [cG x, D0] (aO (P x))) : af Tryz.prog 85 [.κ 3 (l.map cG), .fn (.func G) [] [D0]] (aO (∀ x ∈ l, P x)) := by
 have eT : (l.map cG).length = l.length := by simp
 refine af.Λ ?_ aO.aL
 refine γ.ο ζ η Tryz.func85 rfl rfl ?_
 refine γ.ο ζ η Tryz.func136 rfl rfl ?_
 refine γ.ο ζ η Tryz.func173 rfl rfl ?_
 refine ak (fun i : Nat => i ≤ l.length ∧ ∀ x ∈ l.take i, P x) (fun i => ⟨[(0, .t (.κ 3 (l.map cG))), (1, .fn (.func 137) [] [.ptr 0 0 0 0]), (7, .t (.int .i64 ((l.map cG).length : Int))), (8, .t (.int .i64 i))], [.box [.t (.fn (.func G) [] [D0])]]⟩)
  (fun i => l.length - i) 0 ⟨Nat.zero_le _, by simp⟩ ?_ (fun i hi => ?_)
 ·exact a8 ⟨rfl, rfl, rfl, rfl, trivial⟩ rfl
 obtain ⟨hi, hP⟩ := hi
 refine U (fun c => ?_) (fun c => ?_)
 ·have c : i < l.length := by have := dn c; omega
  obtain ⟨x, hx, cX⟩ := get_some (R := l) (i := i) c
  have hh := hh x cX
  refine ξ (show (l.map cG)[((i : Nat) : Int).toNat]? = some (cG x) from by rw [Int.toNat_natCast, List.getElem?_map, hx]; rfl) ?_
  refine γ.ο ζ η Tryz.func137 rfl rfl ?_
  refine γ.cD hh rfl ⟨.refl _, .refl _, trivial⟩ ?_
  rintro r ⟨b, rfl, hb⟩
  refine U (fun c2 => ?_) (fun c2 => ?_)
  ·have c2 : b = false := by simpa using c2
   refine ⟨_, ⟨false, rfl, ⟨fun h => (by cases h), fun h => absurd (hb.2 (h _ cX)) (by rw [c2]; decide)⟩⟩, _, _, rfl, .of_eq ?_⟩
   exact congrArg T.bool (by simp)
  ·have hb := hb.1 (by simpa using c2)
   refine δ (n := ((i + 1 : Nat) : Int)) (ag (n := i + 1) (by omega)) ?_
   conv => whnf
   exact ⟨⟨i + 1, ⟨c, eh hx hP hb⟩⟩, π [0] rfl ⟨rfl, rfl, rfl, rfl, trivial⟩ ⟨rfl, trivial⟩, by show l.length - (i + 1) < l.length - i; omega⟩
 ·have c : i = l.length := by have := dE c; omega
  refine ⟨_, ⟨true, rfl, ⟨fun _ => by rw [c, List.take_length] at hP; exact hP, fun _ => rfl⟩⟩, _, _, rfl, .of_eq ?_⟩
  exact congrArg T.bool (by simp)
theorem Bm (G : FuncId) (D0 : T) (l : List jX) (P : jX → Prop) (hl : l.length ≤ 9223372036854775807)
 (hh : ∀ x ∈ l, af Tryz.prog G [db x, D0] (aO (P x))) : af Tryz.prog 86 [.κ 3 (l.map db), .fn (.func G) [] [D0]] (aO (∀ x ∈ l, P x)) := by
 have eT : (l.map db).length = l.length := by simp
 refine af.Λ ?_ aO.aL
 refine γ.ο ζ η Tryz.func86 rfl rfl ?_
 refine γ.ο ζ η Tryz.func138 rfl rfl ?_
 refine γ.ο ζ η Tryz.func174 rfl rfl ?_
 refine ak (fun i : Nat => i ≤ l.length ∧ ∀ x ∈ l.take i, P x) (fun i => ⟨[(0, .t (.κ 3 (l.map db))), (1, .fn (.func 139) [] [.ptr 0 0 0 0]), (7, .t (.int .i64 ((l.map db).length : Int))), (8, .t (.int .i64 i))], [.box [.t (.fn (.func G) [] [D0])]]⟩)
  (fun i => l.length - i) 0 ⟨Nat.zero_le _, by simp⟩ ?_ (fun i hi => ?_)
 ·exact a8 ⟨rfl, rfl, rfl, rfl, trivial⟩ rfl
 obtain ⟨hi, hP⟩ := hi
 refine U (fun c => ?_) (fun c => ?_)
 ·have c : i < l.length := by have := dn c; omega
  obtain ⟨x, hx, cX⟩ := get_some (R := l) (i := i) c
  have hh := hh x cX
  refine ξ (show (l.map db)[((i : Nat) : Int).toNat]? = some (db x) from by rw [Int.toNat_natCast, List.getElem?_map, hx]; rfl) ?_
  refine γ.ο ζ η Tryz.func139 rfl rfl ?_
  refine γ.cD hh rfl ⟨.refl _, .refl _, trivial⟩ ?_
  rintro r ⟨b, rfl, hb⟩
  refine U (fun c2 => ?_) (fun c2 => ?_)
  ·have c2 : b = false := by simpa using c2
   refine ⟨_, ⟨false, rfl, ⟨fun h => (by cases h), fun h => absurd (hb.2 (h _ cX)) (by rw [c2]; decide)⟩⟩, _, _, rfl, .of_eq ?_⟩
   exact congrArg T.bool (by simp)
  ·have hb := hb.1 (by simpa using c2)
   refine δ (n := ((i + 1 : Nat) : Int)) (ag (n := i + 1) (by omega)) ?_
   conv => whnf
   exact ⟨⟨i + 1, ⟨c, eh hx hP hb⟩⟩, π [0] rfl ⟨rfl, rfl, rfl, rfl, trivial⟩ ⟨rfl, trivial⟩, by show l.length - (i + 1) < l.length - i; omega⟩
 ·have c : i = l.length := by have := dE c; omega
  refine ⟨_, ⟨true, rfl, ⟨fun _ => by rw [c, List.take_length] at hP; exact hP, fun _ => rfl⟩⟩, _, _, rfl, .of_eq ?_⟩
  exact congrArg T.bool (by simp)
theorem uM (G : FuncId) (D0 : T) (D1 : T) (l : List T) (P : T → Prop) (hl : l.length ≤ 9223372036854775807) (ht : ∀ x ∈ l, aW x)
 (hh : ∀ x ∈ l, af Tryz.prog G [x, D0, D1] (aO (P x))) : af Tryz.prog 24 [.κ 5 l, .fn (.func G) [] [D0, D1]] (aO (∀ x ∈ l, P x)) := by
 have eT : l.length = l.length := by simp
 refine af.Λ ?_ aO.aL
 refine γ.ο ζ η Tryz.func24 rfl rfl ?_
 refine γ.ο ζ η Tryz.func69 rfl rfl ?_
 refine γ.ο ζ η Tryz.func125 rfl rfl ?_
 refine ak (fun i : Nat => i ≤ l.length ∧ ∀ x ∈ l.take i, P x) (fun i => ⟨[(0, .t (.κ 5 l)), (1, .fn (.func 70) [] [.ptr 0 0 0 0]), (7, .t (.int .i64 (l.length : Int))), (8, .t (.int .i64 i))], [.box [.t (.fn (.func G) [] [D0, D1])]]⟩)
  (fun i => l.length - i) 0 ⟨Nat.zero_le _, by simp⟩ ?_ (fun i hi => ?_)
 ·exact a8 ⟨rfl, rfl, rfl, rfl, trivial⟩ rfl
 obtain ⟨hi, hP⟩ := hi
 refine U (fun c => ?_) (fun c => ?_)
 ·have c : i < l.length := by have := dn c; omega
  obtain ⟨x, hx, cX⟩ := get_some (R := l) (i := i) c
  have hh := hh x cX
  have me := ht x cX
  cases me with | mk op wd a b ks _ _ _ _ _ _ =>
  refine ξ (show l[((i : Nat) : Int).toNat]? = some (.agg [.int .i64 op, .int .i64 wd, .int .i64 a, .int .i64 b, .κ 5 ks]) from by rw [Int.toNat_natCast, hx]) ?_
  refine γ.ο ζ η Tryz.func70 rfl rfl ?_
  refine γ.cD hh rfl ⟨.refl _, .refl _, .refl _, trivial⟩ ?_
  rintro r ⟨b, rfl, hb⟩
  refine U (fun c2 => ?_) (fun c2 => ?_)
  ·have c2 : b = false := by simpa using c2
   refine ⟨_, ⟨false, rfl, ⟨fun h => (by cases h), fun h => absurd (hb.2 (h _ cX)) (by rw [c2]; decide)⟩⟩, _, _, rfl, .of_eq ?_⟩
   exact congrArg T.bool (by simp)
  ·have hb := hb.1 (by simpa using c2)
   refine δ (n := ((i + 1 : Nat) : Int)) (ag (n := i + 1) (by omega)) ?_
   conv => whnf
   exact ⟨⟨i + 1, ⟨c, eh hx hP hb⟩⟩, π [0] rfl ⟨rfl, rfl, rfl, rfl, trivial⟩ ⟨rfl, trivial⟩, by show l.length - (i + 1) < l.length - i; omega⟩
 ·have c : i = l.length := by have := dE c; omega
  refine ⟨_, ⟨true, rfl, ⟨fun _ => by rw [c, List.take_length] at hP; exact hP, fun _ => rfl⟩⟩, _, _, rfl, .of_eq ?_⟩
  exact congrArg T.bool (by simp)
theorem BT (G : FuncId) (l : List T) (P : T → Prop) (hl : l.length ≤ 9223372036854775807) (ht : ∀ x ∈ l, aW x)
 (hh : ∀ x ∈ l, af Tryz.prog G [x] (aO (P x))) : af Tryz.prog 24 [.κ 5 l, .fn (.func G) [] []] (aO (∀ x ∈ l, P x)) := by
 have eT : l.length = l.length := by simp
 refine af.Λ ?_ aO.aL
 refine γ.ο ζ η Tryz.func24 rfl rfl ?_
 refine γ.ο ζ η Tryz.func69 rfl rfl ?_
 refine γ.ο ζ η Tryz.func125 rfl rfl ?_
 refine ak (fun i : Nat => i ≤ l.length ∧ ∀ x ∈ l.take i, P x) (fun i => ⟨[(0, .t (.κ 5 l)), (1, .fn (.func 70) [] [.ptr 0 0 0 0]), (7, .t (.int .i64 (l.length : Int))), (8, .t (.int .i64 i))], [.box [.t (.fn (.func G) [] [])]]⟩)
  (fun i => l.length - i) 0 ⟨Nat.zero_le _, by simp⟩ ?_ (fun i hi => ?_)
 ·exact a8 ⟨rfl, rfl, rfl, rfl, trivial⟩ rfl
 obtain ⟨hi, hP⟩ := hi
 refine U (fun c => ?_) (fun c => ?_)
 ·have c : i < l.length := by have := dn c; omega
  obtain ⟨x, hx, cX⟩ := get_some (R := l) (i := i) c
  have hh := hh x cX
  have me := ht x cX
  cases me with | mk op wd a b ks _ _ _ _ _ _ =>
  refine ξ (show l[((i : Nat) : Int).toNat]? = some (.agg [.int .i64 op, .int .i64 wd, .int .i64 a, .int .i64 b, .κ 5 ks]) from by rw [Int.toNat_natCast, hx]) ?_
  refine γ.ο ζ η Tryz.func70 rfl rfl ?_
  refine γ.cD hh rfl ⟨.refl _, trivial⟩ ?_
  rintro r ⟨b, rfl, hb⟩
  refine U (fun c2 => ?_) (fun c2 => ?_)
  ·have c2 : b = false := by simpa using c2
   refine ⟨_, ⟨false, rfl, ⟨fun h => (by cases h), fun h => absurd (hb.2 (h _ cX)) (by rw [c2]; decide)⟩⟩, _, _, rfl, .of_eq ?_⟩
   exact congrArg T.bool (by simp)
  ·have hb := hb.1 (by simpa using c2)
   refine δ (n := ((i + 1 : Nat) : Int)) (ag (n := i + 1) (by omega)) ?_
   conv => whnf
   exact ⟨⟨i + 1, ⟨c, eh hx hP hb⟩⟩, π [0] rfl ⟨rfl, rfl, rfl, rfl, trivial⟩ ⟨rfl, trivial⟩, by show l.length - (i + 1) < l.length - i; omega⟩
 ·have c : i = l.length := by have := dE c; omega
  refine ⟨_, ⟨true, rfl, ⟨fun _ => by rw [c, List.take_length] at hP; exact hP, fun _ => rfl⟩⟩, _, _, rfl, .of_eq ?_⟩
  exact congrArg T.bool (by simp)
end Go.Proofs.YtcogcbplmkcojaaGreatDoor
