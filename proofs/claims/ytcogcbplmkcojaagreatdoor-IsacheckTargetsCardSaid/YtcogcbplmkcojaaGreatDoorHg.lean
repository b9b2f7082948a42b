/-
  The bits of a pattern by their places (walk).
-/
import Derived.Test.YtcogcbplmkcojaaGreatDoorHf
import Derived.Test.YtcogcbplmkcojaaGreatDoorHe
namespace Go.Proofs.YtcogcbplmkcojaaGreatDoor
open Go.IntWalk
set_option maxRecDepth 100000
set_option linter.unusedVariables false
set_option linter.unusedSimpArgs false
set_option maxHeartbeats 1000000
theorem B_ {a b c : Nat} (h : a + b = c) (hc : c ≤ 9223372036854775807) : IntKind.i64.wrap ((c : Int) - (b : Int)) = a := by rw [IntKind.wrap_i64]; omega
theorem mD {i n : Nat} {b : Bool} (hb : b = true) (h : i < n) : (b && pc (i : Int) n) = true := by rw [hb]; simp [pc]; omega
theorem iX {α β : Type} {f : α → β} {l : List α} {i : Nat} {a : α} (h : l[i]? = some a) : (l.map f)[0 + i]? = some (f a) := by rw [Nat.zero_add, List.getElem?_map, h]; rfl
theorem JX {n : Nat} (h : n ≤ 1000000) : (decide (0 ≤ (n : Int)) && decide ((n : Int) ≤ n) && decide ((n : Int) * 24 ≤ 140737488355328) && decide ((n : Int) ≤ 9223372036854775807) && true && true && true) = true := by simp; omega
abbrev lz : Nat := 159
def oB : Θ := ⟨0, 0, 0⟩
def eQ (o : Int) (n s : Nat) : Nat := if o = 1 then n - 1 - s else s / 8 * 8 + 7 - s % 8
theorem tR {o : Int} {n s : Nat} (h : s < n) (h8 : n % 8 = 0) : eQ o n s < n := by unfold eQ; split <;> omega
theorem u6 {o : Int} {n s s' : Nat} (h : s < n) (h' : s' < n) (he : eQ o n s = eQ o n s') : s = s' := by
 unfold eQ at he; split at he <;> omega
theorem E9 {o : Int} {n s : Nat} (h : s < n) : eQ o n (eQ o n s) = s := by
 unfold eQ; split <;> omega
theorem E8 {o : Int} (h : o = 1) (n s : Nat) : eQ o n s = n - 1 - s := by unfold eQ; rw [if_pos h]
theorem C9 {o : Int} (h : ¬ o = 1) (n s : Nat) : eQ o n s = s / 8 * 8 + 7 - s % 8 := by unfold eQ; rw [if_neg h]
def jb (o : Int) (bs R : List Θ) : Prop := R.length = bs.length ∧ ∀ s, s < bs.length → R[eQ o bs.length s]? = bs[s]?
theorem jb.at_ {o : Int} {bs R : List Θ} (h : jb o bs R) (h8 : bs.length % 8 = 0) {p : Nat} (hp : p < bs.length) : R[p]? = bs[eQ o bs.length p]? := by
 have := h.2 (eQ o bs.length p) (tR hp h8)
 rwa [E9 hp] at this
theorem jb.mem {o : Int} {bs R : List Θ} (h : jb o bs R) (h8 : bs.length % 8 = 0) {b : Θ} (hb : b ∈ R) : b ∈ bs := by
 obtain ⟨p, hp, e⟩ := List.getElem_of_mem hb
 have h1 := h.at_ h8 (p := p) (by rw [← h.1]; exact hp)
 rw [List.getElem?_eq_getElem hp, e] at h1
 exact List.mem_of_getElem? h1.symm
def um (d : τ) (bs : List Θ) (r : AV) : Prop := ∃ R : List Θ, r = .own lz 3 false (R.map aA) ∧ jb d.order bs R
theorem um.aL {d : τ} {bs : List Θ} : ∀ r, um d bs r → aL r = true := by rintro r ⟨R, rfl, _⟩; rfl
theorem BH (d : τ) (bs : List Θ) (hn : bs.length ≤ 1000000) (h8 : bs.length % 8 = 0) : af Tryz.prog 106 [aq d, .κ 3 (bs.map aA)] (um d bs) := by
 have eT : (bs.map aA).length = bs.length := by simp
 obtain ⟨n, yx⟩ : ∃ n, n = bs.length := ⟨_, rfl⟩
 refine af.Λ ?_ um.aL
 refine γ.ο ζ η Tryz.func106 rfl rfl ?_
 refine ε (JX (n := (bs.map aA).length) (by omega)) ?_
 refine U (fun c => absurd (of_decide_eq_true c) (by omega)) (fun _ => ?_)
 have hz : (List.replicate (((bs.map aA).length : Nat) : Int).toNat (aA oB)) = (List.replicate n oB).map aA := by rw [Int.toNat_natCast, eT, List.map_replicate, yx]
 refine ak (fun s : Nat × List Θ => s.1 ≤ n ∧ s.2.length = n ∧ ∀ t, t < s.1 → s.2[eQ d.order n t]? = bs[t]?) (fun s => ⟨[(1, .t (.κ 3 (bs.map aA))), (2, .ptr 0 0 0 0), (5, .sl 1 0 0 n), (11, .t (.κ 3 (bs.map aA))), (12, .t (.int .i64 ((bs.map aA).length : Int))), (13, .t (.int .i64 s.1))], [.box (b_ d), .arr lz 3 false 0 (.ts (s.2.map aA))]⟩)
  (fun s => n - s.1) (0, List.replicate n oB) ⟨Nat.zero_le _, List.length_replicate, fun t ht => absurd ht (Nat.not_lt_zero _)⟩ ?_ (fun ⟨i, R⟩ hi => ?_)
 ·exact π [0, 2] rfl ⟨rfl, rfl, congrArg (fun k : Nat => some (AV.sl 1 0 0 k)) (show (((bs.map aA).length : Nat) : Int).toNat = n by rw [Int.toNat_natCast, eT, yx]), rfl, rfl, rfl, trivial⟩ ⟨rfl, congrArg (fun l => some (Ψ.arr lz 3 false 0 (.ts l))) hz, trivial⟩
 have hi : i ≤ n ∧ R.length = n ∧ ∀ t, t < i → R[eQ d.order n t]? = bs[t]? := hi
 obtain ⟨hi, NA, hR⟩ := hi
 refine U (fun c => ?_) (fun c => ?_)
 ·have c : i < n := by have := dn c; omega
  obtain ⟨x, hx, cX⟩ := get_some (R := bs) (i := i) (by omega)
  refine ξ (show (bs.map aA)[((i : Nat) : Int).toNat]? = some (aA x) from by rw [Int.toNat_natCast, List.getElem?_map, hx]; rfl) ?_
  have fin : ∀ j, j = eQ d.order n i → i + 1 ≤ n ∧ (R.set j x).length = n ∧ ∀ t, t < i + 1 → (R.set j x)[eQ d.order n t]? = bs[t]? := fun j hj => ⟨c, by simp [NA], fun t ht => by
   have M8 : j < n := by rw [hj]; exact tR c (by omega)
   by_cases me : t = i
   ·subst me
    rw [← hj, List.getElem?_set_self (by omega), hx]
   ·have : eQ d.order n t ≠ j := fun e => me (u6 (n := n) (o := d.order) (by omega) c (by rw [e, hj]))
    rw [List.getElem?_set_ne (fun e => this e.symm)]
    exact hR t (by omega)⟩
  refine U (fun co => ?_) (fun co => ?_)
  ·refine δ (n := ((n - 1 : Nat) : Int)) (show IntKind.i64.wrap (((bs.map aA).length : Int) - 1) = ((n - 1 : Nat) : Int) from by rw [eT, IntKind.wrap_i64]; omega) ?_
   refine δ (n := ((n - 1 - i : Nat) : Int)) (B_ (a := n - 1 - i) (b := i) (c := n - 1) (by omega) (by omega)) ?_
   obtain ⟨y, hy, _⟩ := get_some (R := R) (i := n - 1 - i) (by omega)
   refine ε (mD rfl (by omega)) ?_
   refine ξ (iX hy) ?_
   refine δ (n := ((i + 1 : Nat) : Int)) (ag (n := i + 1) (by omega)) ?_
   conv => whnf
   exact ⟨⟨(i + 1, R.set (n - 1 - i) x), fin _ (E8 (by simpa using co) _ _).symm⟩, π [0, 1] rfl ⟨rfl, rfl, rfl, rfl, rfl, rfl, trivial⟩ ⟨rfl, congrArg (fun l => some (Ψ.arr lz 3 false 0 (.ts l))) (show (R.map aA).set (0 + (n - 1 - i)) (aA x) = (R.set (n - 1 - i) x).map aA by rw [Nat.zero_add, List.map_set]), trivial⟩, by show n - (i + 1) < n - i; omega⟩
  ·obtain ⟨q, hq⟩ : ∃ q, q = i / 8 := ⟨_, rfl⟩
   obtain ⟨m, hm⟩ : ∃ m, m = i % 8 := ⟨_, rfl⟩
   obtain ⟨p, hp⟩ : ∃ p, p = q * 8 + 7 - m := ⟨_, rfl⟩
   have MQ : p < n := by omega
   refine ε rfl ?_
   obtain ⟨q8, Tg⟩ : ∃ z, z = q * 8 := ⟨_, rfl⟩
   obtain ⟨q7, Th⟩ : ∃ z, z = q8 + 7 := ⟨_, rfl⟩
   refine δ (n := ((q : Nat) : Int)) (show IntKind.i64.wrap (((i : Nat) : Int).tdiv 8) = _ from by rw [Int.tdiv_eq_ediv_of_nonneg (by omega), IntKind.wrap_i64]; omega) ?_
   refine δ (n := ((q8 : Nat) : Int)) (show IntKind.i64.wrap (((q : Nat) : Int) * 8) = _ from by rw [IntKind.wrap_i64]; omega) ?_
   refine δ (n := ((q7 : Nat) : Int)) (show IntKind.i64.wrap (((q8 : Nat) : Int) + 7) = _ from by rw [IntKind.wrap_i64]; omega) ?_
   refine ε rfl ?_
   refine δ (n := ((m : Nat) : Int)) (show ((i : Nat) : Int).tmod 8 = _ from by rw [Int.tmod_eq_emod_of_nonneg (by omega)]; omega) ?_
   refine δ (n := ((p : Nat) : Int)) (show IntKind.i64.wrap (((q7 : Nat) : Int) - ((m : Nat) : Int)) = _ from by rw [IntKind.wrap_i64]; omega) ?_
   obtain ⟨y, hy, _⟩ := get_some (R := R) (i := p) (by omega)
   refine ε (mD rfl (by omega)) ?_
   refine ξ (iX hy) ?_
   refine δ (n := ((i + 1 : Nat) : Int)) (ag (n := i + 1) (by omega)) ?_
   conv => whnf
   exact ⟨⟨(i + 1, R.set p x), fin _ (by rw [C9 (by simpa using co)]; omega)⟩, π [0, 1] rfl ⟨rfl, rfl, rfl, rfl, rfl, rfl, trivial⟩ ⟨rfl, congrArg (fun l => some (Ψ.arr lz 3 false 0 (.ts l))) (show (R.map aA).set (0 + p) (aA x) = (R.set p x).map aA by rw [Nat.zero_add, List.map_set]), trivial⟩, by show n - (i + 1) < n - i; omega⟩
 ·have c : i = n := by have := dE c; omega
  exact ⟨_, ⟨R, rfl, by omega, fun t ht => by rw [← yx]; exact hR t (by omega)⟩, _, rfl, rfl, by simp; omega, .refl _⟩
end Go.Proofs.YtcogcbplmkcojaaGreatDoor
