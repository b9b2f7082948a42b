/-
  The document's bits by their places; do some bytes fit a form? (walks)
-/
import Derived.Test.YtcogcbplmkcojaaGreatDoorHq
import Derived.Test.YtcogcbplmkcojaaGreatDoorHu
namespace Go.Proofs.YtcogcbplmkcojaaGreatDoor
open Go.IntWalk
set_option maxRecDepth 100000
set_option linter.unusedVariables false
set_option linter.unusedSimpArgs false
set_option maxHeartbeats 1000000
def Dc : Ord := (.op 0 [] (.op 1 [0] (.op 2 [0] (.op 3 [] (.op 4 [] (.op 5 [4, 3, 2, 1, 0] (.op 6 [4, 3, 2, 1, 0] (.op 7 [4, 3, 2, 1, 0] (.op 8 [4, 3, 2, 1, 0] (.op 9 [] (.op 10 [] (.op 11 [] .nil))))))))))))
def Db : Ord := (.op 0 [] (.op 1 [0] (.op 2 [0] (.op 3 [2, 1, 0] (.op 4 [2, 1, 0] (.op 5 [0] (.op 6 [0] (.op 7 [6, 5, 4, 3, 2, 1, 0] (.op 8 [7, 6, 5, 4, 3, 2, 1, 0] (.op 9 [6, 5, 4, 3, 2, 1, 0] (.op 10 [6, 5, 4, 3, 2, 1, 0] (.op 11 [0] (.op 12 [] .nil)))))))))))))
def w7 (d : τ) (f : aj) (r : AV) : Prop := r = .ao [.own fF 3 true [], .t (.bool false)] ∨ r = .ao [.own fF 3 false ((aE d f).map aA), .t (.bool true)]
theorem w7.aL {d : τ} {f : aj} : ∀ r, w7 d f r → aL r = true := by rintro r (rfl | rfl) <;> rfl
theorem K_ (o : Int) {s n : Nat} (hs : s < n) : 8 * (if o = 1 then (n - 1 - s) / 8 else s / 8) + (if o = 1 then (n - 1 - s) % 8 else 7 - s % 8) = eQ o n s := by
 unfold eQ
 split <;> omega
theorem DY (d : τ) (f : aj) (hd : d.ok) (hf : f.ok) (hG : di d f) : af Tryz.prog 29 [aq d, ab f] (w7 d f) := by
 have hW := zx d f hd hf hG
 obtain ⟨L, hL⟩ : ∃ L, L = bN f.pieces := ⟨_, rfl⟩
 obtain ⟨n, yx⟩ : ∃ n, n = L.length := ⟨_, rfl⟩
 have hn : n ≤ 120 := by rw [yx, hL]; exact hG.le
 have h8 : n % 8 = 0 := by rw [yx, hL]; exact hG.m8
 have eT : (L.map aA).length = n := by rw [List.length_map, yx]
 refine af.Λ ?_ w7.aL
 refine γ.ο ζ η Tryz.func29 rfl rfl ?_
 refine γ.cD hW rfl ⟨.refl _, .refl _, trivial⟩ ?_
 rintro _ (rfl | ⟨b, rfl⟩)
 ·exact ⟨_, .inl rfl, ⟨⟨[], rfl, rfl, rfl, .refl _⟩, ⟨_, _, rfl, .refl _⟩, trivial⟩, rfl⟩
 cases b with
 | false => exact ⟨_, .inl rfl, ⟨⟨[], rfl, rfl, rfl, .refl _⟩, ⟨_, _, rfl, .refl _⟩, trivial⟩, rfl⟩
 | true =>
  rw [← hL]
  refine ε (JX (n := (L.map aA).length) (by omega)) ?_
  refine U (fun c => absurd (of_decide_eq_true c) (by omega)) (fun _ => ?_)
  have hz : (List.replicate (((L.map aA).length : Nat) : Int).toNat (aA oB)) = (List.replicate n oB).map aA := by rw [Int.toNat_natCast, eT, List.map_replicate]
  have MW : (((L.map aA).length : Nat) : Int).toNat = n := by rw [Int.toNat_natCast, eT]
  refine ak (fun s : Nat × List Θ => s.1 ≤ n ∧ s.2.length = n ∧ ∀ t, t < s.1 → s.2[eQ d.order n t]? = L[t]?) (fun s => ⟨[(2, .ptr 0 0 0 0), (6, .sl 1 0 0 n), (8, .sl 2 0 0 n), (24, .sl 1 0 0 n), (25, .t (.int .i64 (n : Int))), (26, .t (.int .i64 s.1))], [.box (b_ d), .arr fF 3 false 0 (.ts (L.map aA)), .arr fF 3 false 0 (.ts (s.2.map aA))]⟩)
   (fun s => n - s.1) (0, List.replicate n oB) ⟨Nat.zero_le _, List.length_replicate, fun t ht => absurd ht (Nat.not_lt_zero _)⟩ ?_ (fun ⟨i, R⟩ hi => ?_)
  ·exact π [0, 3, 4] rfl ⟨rfl, congrArg (fun k : Nat => some (AV.sl 1 0 0 k)) eT, congrArg (fun k : Nat => some (AV.sl 2 0 0 k)) MW, congrArg (fun k : Nat => some (AV.sl 1 0 0 k)) eT, congrArg (fun k : Nat => some (AV.t (.int .i64 (k : Int)))) eT, rfl, trivial⟩ ⟨rfl, rfl, congrArg (fun l => some (Ψ.arr fF 3 false 0 (.ts l))) hz, trivial⟩
  obtain ⟨hi, NA, hR⟩ : i ≤ n ∧ R.length = n ∧ ∀ t, t < i → R[eQ d.order n t]? = L[t]? := hi
  refine U (fun c => ?_) (fun c => ?_)
  ·have c : i < n := by have := dn c; omega
   obtain ⟨x, hx, cX⟩ := get_some (R := L) (i := i) (by omega)
   have PF := G8 d.order i n c (by omega)
   have hP := K_ d.order c
   obtain ⟨K, hK⟩ : ∃ K : Nat, K = (if d.order = 1 then (n - 1 - i) / 8 else i / 8) := ⟨_, rfl⟩
   obtain ⟨I, hI⟩ : ∃ I : Nat, I = (if d.order = 1 then (n - 1 - i) % 8 else 7 - i % 8) := ⟨_, rfl⟩
   obtain ⟨p, hp⟩ : ∃ p, p = eQ d.order n i := ⟨_, rfl⟩
   rw [← hK, ← hI] at PF
   rw [← hK, ← hI, ← hp] at hP
   have MQ : p < n := by rw [hp]; exact tR c h8
   obtain ⟨K8, Tz⟩ : ∃ K8, K8 = 8 * K := ⟨_, rfl⟩
   refine ε (mD rfl (by omega)) ?_
   refine ξ (iX hx) ?_
   refine γ.pure PF rfl ?_
   refine δ (n := ((K8 : Nat) : Int)) (by rw [IntKind.wrap_i64]; omega) ?_
   refine δ (n := ((p : Nat) : Int)) (by rw [IntKind.wrap_i64]; omega) ?_
   obtain ⟨y, hy, _⟩ := get_some (R := R) (i := p) (by omega)
   refine ε (mD rfl (by omega)) ?_
   refine ξ (iX hy) ?_
   refine δ (n := ((i + 1 : Nat) : Int)) (ag (n := i + 1) (by omega)) ?_
   conv => whnf
   exact ⟨⟨(i + 1, R.set p x), c, by show (R.set p x).length = n; simp [NA], fun t ht => by
    by_cases me : t = i
    ·subst me
     rw [← hp, List.getElem?_set_self (by omega), hx]
    ·have : eQ d.order n t ≠ p := fun e => me (u6 (n := n) (o := d.order) (by have : t < i + 1 := ht; omega) c (by rw [e, hp]))
     rw [List.getElem?_set_ne (fun e => this e.symm)]
     exact hR t (by have : t < i + 1 := ht; omega)⟩, π [0, 1, 2] rfl ⟨rfl, rfl, rfl, rfl, rfl, rfl, trivial⟩ ⟨rfl, rfl, congrArg (fun l => some (Ψ.arr fF 3 false 0 (.ts l))) (show (R.map aA).set (0 + p) (aA x) = (R.set p x).map aA by rw [Nat.zero_add, List.map_set]), trivial⟩, by show n - (i + 1) < n - i; omega⟩
  ·have c : i = n := by have := dE c; omega
   have e : R = aE d f := by
    have h : jb d.order L R := ⟨by omega, fun t ht => by rw [← yx]; exact hR t (by omega)⟩
    rw [aE, ← hL]; exact h.eq (by omega)
   exact ⟨_, .inr rfl, ⟨⟨R.map aA, rfl, rfl, by simp; omega, by rw [e]; exact .refl _⟩, ⟨_, _, rfl, .refl _⟩, trivial⟩, rfl⟩
def sv (n : Nat) : T := .int .u64 n
abbrev uS : Nat := 74
theorem gm {x : Θ} {k : Nat} (c : (((x.lit : Nat) : Int) == (k : Int)) = true) : x.lit = k := by simp at c; omega
theorem qH {x : Θ} {k : Nat} (c : (((x.lit : Nat) : Int) == (k : Int)) = false) : ¬ x.lit = k := by simp at c; omega
theorem K1 {V : List Nat} {ai v : Nat} {i : Int} (hi : i = (ai : Int)) : (V.map sv).set (0 + i.toNat) (T.int .u64 (v : Int)) = (V.set ai v).map sv := by
 rw [hi, Int.toNat_natCast, Nat.zero_add, List.map_set]; rfl
theorem PY {n : Nat} (h : n ≤ 1000000) : (decide (0 ≤ (n : Int)) && decide ((n : Int) ≤ n) && decide ((n : Int) * 8 ≤ 140737488355328) && decide ((n : Int) ≤ 9223372036854775807) && true && true && true) = true := by simp; omega
theorem LU {z : UInt8} {k : Nat} : z.toNat / 2 ^ k % 2 = if z.toNat.testBit k then 1 else 0 := by
 rw [← Nat.shiftRight_eq_div_pow]
 have : z.toNat.testBit k = (1 &&& (z.toNat >>> k) != 0) := rfl
 rw [this, Nat.and_comm, Nat.and_one_is_mod]
 have := Nat.mod_lt (z.toNat >>> k) (show 2 > 0 by decide)
 rcases Nat.lt_or_ge (z.toNat >>> k % 2) 1 with h | h
 ·have e : z.toNat >>> k % 2 = 0 := by omega
  rw [e]; rfl
 ·have e : z.toNat >>> k % 2 = 1 := by omega
  rw [e]; rfl
structure py (f : aj) (A : List Θ) (b : List UInt8) (p : Nat) (V : List Nat) : Prop where
 le : p ≤ A.length
 len : V.length = f.args.length
 val : ∀ (a : Nat) v, V[a]? = some v → e_ A a (jD b) p v ∧ v < 18446744073709551616
 lits : ∀ (q : Nat) (x : Θ), q < p → A[q]? = some x → (x.lit = 48 → jD b q = false) ∧ (x.lit = 49 → jD b q = true)
theorem py.skip {f : aj} {A : List Θ} {b : List UInt8} {p : Nat} {V : List Nat} {x : Θ} (h : py f A b p V) (hx : A[p]? = some x) (h8 : x.lit = 48 → jD b p = false) (h9 : x.lit = 49 → jD b p = true) (h0 : 0 ≤ x.arg → jD b p = false) : py f A b (p + 1) V where
 le := (List.getElem?_eq_some_iff.1 hx).1
 len := h.len
 val := fun a v hv => ⟨(h.val a v hv).1.skip hx fun e => h0 (by omega), (h.val a v hv).2⟩
 lits := fun q y hq hy => by
  by_cases e : q = p
  ·subst e
   obtain rfl : x = y := by rw [hx] at hy; exact Option.some.inj hy
   exact ⟨h8, h9⟩
  ·exact h.lits q y (by omega) hy
theorem py.set {f : aj} {A : List Θ} {b : List UInt8} {p : Nat} {V : List Nat} {x : Θ} {ai m v : Nat} (h : py f A b p V) (hx : A[p]? = some x) (ha : x.arg = (ai : Int)) (hm : x.num = (m : Int)) (h0 : x.lit = 0) (hv : V[ai]? = some v) (ho : jD b p = true) (mG : m < 64) : py f A b (p + 1) (V.set ai (v ||| 2 ^ m)) where
 le := (List.getElem?_eq_some_iff.1 hx).1
 len := by rw [List.length_set]; exact h.len
 val := fun a w hw => by
  rw [List.getElem?_set] at hw
  split at hw
  ·next e =>
   subst e
   split at hw
   ·obtain rfl := Option.some.inj hw
    exact ⟨(h.val _ _ hv).1.set hx ha hm ho, vQ (h.val _ _ hv).2 mG⟩
   ·cases hw
  ·next e => exact ⟨(h.val a w hw).1.skip hx fun e2 => absurd e2 (by omega), (h.val a w hw).2⟩
 lits := fun q y hq hy => by
  by_cases e : q = p
  ·subst e
   obtain rfl : x = y := by rw [hx] at hy; exact Option.some.inj hy
   exact ⟨fun e => by omega, fun e => by omega⟩
  ·exact h.lits q y (by omega) hy
theorem py.free {d : τ} {f : aj} {A : List Θ} {b : List UInt8} {p : Nat} {V : List Nat} {x : Θ} {ai m v : Nat} (h : py f A b p V) (hG : di d f) (hA : A = aE d f) (hv : V[ai]? = some v) (hx : A[p]? = some x) (ha : x.arg = (ai : Int)) (hm : x.num = (m : Int)) : v.testBit m = false := by
 cases e : v.testBit m
 ·rfl
 ·obtain ⟨q, y, hq, hy, S_, QS, _⟩ := ((h.val ai v hv).1 m).1 e
  rw [hA] at hx hy
  exact absurd ⟨by omega, by omega⟩ (hG.Hw hy hx (by omega) (by omega))
theorem GL (d : τ) (f : aj) (hd : d.ok) (hf : f.ok) (hG : di d f) (b : List UInt8) (hb : b.length ≤ reachBytes) : af Tryz.prog 11 [aq d, ab f, .κ 1 (jS b)] (nW (se d f b)) := by
 have hW := DY d f hd hf hG
 obtain ⟨A, hA⟩ : ∃ A, A = aE d f := ⟨_, rfl⟩
 have R5 : A.length ≤ 120 := by rw [hA, iA]; exact hG.le
 have M0 : (A.map aA).length = A.length := by simp
 have Rh : (jS b).length = b.length := by simp [jS]
 have Gd : (f.args.map Φ).length = f.args.length := by simp
 have Ps := hG.args
 have hr : reachBytes ≤ 140737488355328 := by decide
 refine af.Λ ?_ nW.aL
 refine γ.ο ζ η Tryz.func11 rfl rfl ?_
 refine γ.cD hW rfl ⟨.refl _, .refl _, trivial⟩ ?_
 rintro _ (rfl | rfl)
 ·exact vU
 rw [← hA]
 refine δ (n := ((8 * b.length : Nat) : Int)) (by rw [Rh, IntKind.wrap_i64]; omega) ?_
 refine U (fun _ => ?_) (fun cl => ?_)
 ·exact vU
 have cl : A.length ≤ 8 * b.length := by have := df (show decide (((A.map aA).length : Int) > ((8 * b.length : Nat) : Int)) = false from cl); omega
 refine ε (PY (n := (f.args.map Φ).length) (by omega)) ?_
 refine U (fun c => absurd (of_decide_eq_true c) (by omega)) (fun _ => ?_)
 have hz : (List.replicate (((f.args.map Φ).length : Nat) : Int).toNat (T.int .u64 0)) = (List.replicate f.args.length 0).map sv := by rw [Int.toNat_natCast, Gd, List.map_replicate]; rfl
 have MW : (((f.args.map Φ).length : Nat) : Int).toNat = f.args.length := by rw [Int.toNat_natCast, Gd]
 refine dW (fun e s' => (e = .exit 0 ∧ ∃ (b0 : AV) (V : List Nat), py f A b A.length V ∧ s' = ⟨[(40, b0), (2, .t (.κ 1 (jS b))), (3, .ptr 0 0 0 0), (4, .ptr 1 0 0 0), (9, .sl 3 0 0 f.args.length), (37, .sl 2 0 0 A.length), (38, .t (.int .i64 (A.length : Int))), (39, .t (.int .i64 A.length))], [.box (b_ d), .box (eO f), .arr fF 3 false 0 (.ts (A.map aA)), .arr uS 1 false 0 (.ts (V.map sv))]⟩) ∨ (e = .ret ∧ ∃ env H, s' = ⟨(6, .t (.bool false)) :: env, H⟩)) (fun Hz HQ => ?_) ?_
 ·refine ak (fun s : Nat × List Nat => py f A b s.1 s.2) (fun s => ⟨[(2, .t (.κ 1 (jS b))), (3, .ptr 0 0 0 0), (4, .ptr 1 0 0 0), (9, .sl 3 0 0 f.args.length), (37, .sl 2 0 0 A.length), (38, .t (.int .i64 (A.length : Int))), (39, .t (.int .i64 s.1))], [.box (b_ d), .box (eO f), .arr fF 3 false 0 (.ts (A.map aA)), .arr uS 1 false 0 (.ts (s.2.map sv))]⟩)
   (fun s => A.length - s.1) (0, List.replicate f.args.length 0) ⟨Nat.zero_le _, List.length_replicate, fun a v hv => by rw [List.eq_of_mem_replicate (List.mem_of_getElem? hv)]; exact ⟨e_.zero _ _ _, by decide⟩, fun q x hq => absurd hq (Nat.not_lt_zero _)⟩ ?_ (fun ⟨p, V⟩ hV => ?_)
  ·exact π [0, 1, 2, 3] rfl ⟨rfl, rfl, rfl, congrArg (fun k : Nat => some (AV.sl 3 0 0 k)) MW, congrArg (fun k : Nat => some (AV.sl 2 0 0 k)) M0, congrArg (fun k : Nat => some (AV.t (.int .i64 (k : Int)))) M0, rfl, trivial⟩ ⟨rfl, rfl, rfl, congrArg (fun l => some (Ψ.arr uS 1 false 0 (.ts l))) hz, trivial⟩
  have hV : py f A b p V := hV
  have RI := hV.len
  refine U (fun c => ?_) (fun c => ?_)
  ·have c : p < A.length := by have := dn c; omega
   obtain ⟨x, hx, cX⟩ := get_some (R := A) (i := p) c
   have ji := hG.is x (by rw [← hA]; exact cX)
   obtain ⟨z, hz, _⟩ := get_some (R := b) (i := p / 8) (by omega)
   have RC : jD b p = z.toNat.testBit (p % 8) := by unfold jD; rw [hz]; rfl
   have hq := LU (z := z) (k := p % 8)
   rw [← RC] at hq
   obtain ⟨dq, Pn⟩ : ∃ dq, dq = z.toNat / 2 ^ (p % 8) := ⟨_, rfl⟩
   rw [← Pn] at hq
   refine ε (mD rfl (by omega)) ?_
   refine ξ (iX hx) ?_
   refine ε rfl ?_
   refine δ (n := ((p / 8 : Nat) : Int)) (show IntKind.i64.wrap (((p : Nat) : Int).tdiv 8) = _ from by rw [Int.tdiv_eq_ediv_of_nonneg (by omega), IntKind.wrap_i64]; omega) ?_
   refine ξ (show (jS b)[(((p / 8 : Nat) : Nat) : Int).toNat]? = some (T.int .u8 z.toNat) from by rw [Int.toNat_natCast, jS, List.getElem?_map, hz]; rfl) ?_
   refine ε rfl ?_
   refine δ (n := ((p % 8 : Nat) : Int)) (show ((p : Nat) : Int).tmod 8 = _ from by rw [Int.tmod_eq_emod_of_nonneg (by omega)]; omega) ?_
   refine δ (n := ((p % 8 : Nat) : Int)) (lr (by omega) (by omega)) ?_
   refine ε (decide_eq_true (show (0 : Int) ≤ ((p % 8 : Nat) : Int) by omega)) ?_
   refine δ (n := ((dq : Nat) : Int)) (show ((z.toNat : Nat) : Int).fdiv (2 ^ (min (((p % 8 : Nat) : Int)).toNat IntKind.u8.bits)) = _ from by
    rw [Int.toNat_natCast, Nat.min_eq_left (show p % 8 ≤ IntKind.u8.bits by show _ ≤ 8; omega), ← fu, Int.fdiv_eq_ediv_of_nonneg _ (Int.natCast_nonneg _), ← Int.natCast_ediv, Pn]) ?_
   refine ε rfl ?_
   cases kU : jD b p with
   | true =>
    rw [kU, if_pos rfl] at hq
    refine δ (n := 1) (by rw [Int.tmod_eq_emod_of_nonneg (by omega)]; omega) ?_
    rcases ji with ⟨Qg, _, h0 | h0 | h0⟩ | ⟨h0, ai, a, k, m, ha, qR, Pq, hm, ph, de⟩
    ·refine U (fun _ => ?_) (fun c => absurd h0 (qH (k := 48) c))
     exact HQ _ _ (.inr ⟨rfl, _, _, rfl⟩)
    ·refine U (fun c => absurd (gm (k := 48) c) (by omega)) (fun _ => ?_)
     refine U (fun _ => ?_) (fun c => absurd h0 (qH (k := 49) c))
     refine U (fun c => absurd (gm (k := 0) c) (by omega)) (fun _ => ?_)
     refine δ (n := ((p + 1 : Nat) : Int)) (ag (n := p + 1) (by omega)) ?_
     conv => whnf
     exact ⟨⟨(p + 1, V), hV.skip hx (fun h => by omega) (fun _ => kU) (fun h => by omega)⟩, π [0, 1, 2, 3] rfl ⟨rfl, rfl, rfl, rfl, rfl, rfl, rfl, trivial⟩ ⟨rfl, rfl, rfl, rfl, trivial⟩, by show A.length - (p + 1) < A.length - p; omega⟩
    ·refine U (fun c => absurd (gm (k := 48) c) (by omega)) (fun _ => ?_)
     refine U (fun c => absurd (gm (k := 49) c) (by omega)) (fun _ => ?_)
     refine U (fun c => absurd (gm (k := 0) c) (by omega)) (fun _ => ?_)
     refine δ (n := ((p + 1 : Nat) : Int)) (ag (n := p + 1) (by omega)) ?_
     conv => whnf
     exact ⟨⟨(p + 1, V), hV.skip hx (fun h => by omega) (fun h => by omega) (fun h => by omega)⟩, π [0, 1, 2, 3] rfl ⟨rfl, rfl, rfl, rfl, rfl, rfl, rfl, trivial⟩ ⟨rfl, rfl, rfl, rfl, trivial⟩, by show A.length - (p + 1) < A.length - p; omega⟩
    ·have og := (List.getElem?_eq_some_iff.1 qR).1
     have mG : m < 64 := by rcases de with h | h | h <;> omega
     refine U (fun c => absurd (gm (k := 48) c) (by omega)) (fun _ => ?_)
     refine U (fun c => absurd (gm (k := 49) c) (by omega)) (fun _ => ?_)
     refine U (fun _ => ?_) (fun c => absurd h0 (qH (k := 0) c))
     obtain ⟨v, hv, _⟩ := get_some (R := V) (i := ai) (by rw [hV.len]; exact og)
     have Q1 := hV.val ai v hv
     have Qf := hV.free hG hA hv hx ha hm
     have P5 : v + 2 ^ m = v ||| 2 ^ m := LW Qf
     have χ : v ||| 2 ^ m < 18446744073709551616 := vQ Q1.2 mG
     refine υ Dc (by decide +kernel) ?_
     refine ε (pb rfl (by omega) (by omega)) ?_
     refine ξ (mA ha hv) ?_
     refine δ (n := ((m : Nat) : Int)) (by rw [hm]; exact lr (by omega) (by omega)) ?_
     refine ε (decide_eq_true (show (0 : Int) ≤ ((m : Nat) : Int) by omega)) ?_
     refine δ (n := ((2 ^ m : Nat) : Int)) (qy rfl mG) ?_
     refine δ (n := ((v ||| 2 ^ m : Nat) : Int)) (by rw [← Int.natCast_add, P5]; exact zC χ) ?_
     refine ε (pb rfl (by omega) (by omega)) ?_
     refine ξ (mA ha hv) ?_
     refine And.intro (fun j hj => by cases hj) ?_
     refine δ (n := ((p + 1 : Nat) : Int)) (ag (n := p + 1) (by omega)) ?_
     conv => whnf
     exact ⟨⟨(p + 1, V.set ai (v ||| 2 ^ m)), hV.set hx ha hm h0 hv kU mG⟩, π [0, 1, 2, 3] rfl ⟨rfl, rfl, rfl, rfl, rfl, rfl, rfl, trivial⟩ ⟨rfl, rfl, rfl, congrArg (fun l => some (Ψ.arr uS 1 false 0 (.ts l))) (K1 ha), trivial⟩, by show A.length - (p + 1) < A.length - p; omega⟩
   | false =>
    rw [kU, if_neg (by decide)] at hq
    refine δ (n := 0) (by rw [Int.tmod_eq_emod_of_nonneg (by omega)]; omega) ?_
    rcases ji with ⟨Qg, _, h0 | h0 | h0⟩ | ⟨h0, ai, a, k, m, ha, qR, Pq, hm, ph, de⟩
    ·refine U (fun _ => ?_) (fun c => absurd h0 (qH (k := 48) c))
     refine U (fun c => absurd (gm (k := 49) c) (by omega)) (fun _ => ?_)
     refine U (fun c => absurd (gm (k := 0) c) (by omega)) (fun _ => ?_)
     refine δ (n := ((p + 1 : Nat) : Int)) (ag (n := p + 1) (by omega)) ?_
     conv => whnf
     exact ⟨⟨(p + 1, V), hV.skip hx (fun _ => kU) (fun h => by omega) (fun h => by omega)⟩, π [0, 1, 2, 3] rfl ⟨rfl, rfl, rfl, rfl, rfl, rfl, rfl, trivial⟩ ⟨rfl, rfl, rfl, rfl, trivial⟩, by show A.length - (p + 1) < A.length - p; omega⟩
    ·refine U (fun c => absurd (gm (k := 48) c) (by omega)) (fun _ => ?_)
     refine U (fun _ => ?_) (fun c => absurd h0 (qH (k := 49) c))
     exact HQ _ _ (.inr ⟨rfl, _, _, rfl⟩)
    ·refine U (fun c => absurd (gm (k := 48) c) (by omega)) (fun _ => ?_)
     refine U (fun c => absurd (gm (k := 49) c) (by omega)) (fun _ => ?_)
     refine U (fun c => absurd (gm (k := 0) c) (by omega)) (fun _ => ?_)
     refine δ (n := ((p + 1 : Nat) : Int)) (ag (n := p + 1) (by omega)) ?_
     conv => whnf
     exact ⟨⟨(p + 1, V), hV.skip hx (fun h => by omega) (fun h => by omega) (fun h => by omega)⟩, π [0, 1, 2, 3] rfl ⟨rfl, rfl, rfl, rfl, rfl, rfl, rfl, trivial⟩ ⟨rfl, rfl, rfl, rfl, trivial⟩, by show A.length - (p + 1) < A.length - p; omega⟩
    ·skip
     refine U (fun c => absurd (gm (k := 48) c) (by omega)) (fun _ => ?_)
     refine U (fun c => absurd (gm (k := 49) c) (by omega)) (fun _ => ?_)
     refine U (fun _ => ?_) (fun c => absurd h0 (qH (k := 0) c))
     refine δ (n := ((p + 1 : Nat) : Int)) (ag (n := p + 1) (by omega)) ?_
     conv => whnf
     exact ⟨⟨(p + 1, V), hV.skip hx (fun h => by omega) (fun h => by omega) (fun _ => kU)⟩, π [0, 1, 2, 3] rfl ⟨rfl, rfl, rfl, rfl, rfl, rfl, rfl, trivial⟩ ⟨rfl, rfl, rfl, rfl, trivial⟩, by show A.length - (p + 1) < A.length - p; omega⟩
  ·have c : p = A.length := by have := dE c; have := hV.le; omega
   exact HQ _ _ (.inl ⟨rfl, _, V, by rw [← c]; exact hV, by rw [← c]⟩)
 rintro _ _ (⟨rfl, b0, V, hV, rfl⟩ | ⟨rfl, env, H, rfl⟩)
 rotate_left 1
 ·exact vU
 have RI := hV.len
 refine ak (fun i : Nat => i ≤ f.args.length ∧ ∀ (i' : Nat) a k n, i' < i → f.args[i']? = some a → cV d.classes a.bn = some k → jc A i' (jD b) n → eo k n ∉ k.bb) (fun i => ⟨[(3, .ptr 0 0 0 0), (9, .sl 2 0 0 f.args.length), (89, .t (.κ 2 (f.args.map Φ))), (90, .t (.int .i64 ((f.args.map Φ).length : Int))), (91, .t (.int .i64 i))], [.box (b_ d), .box (eO f), .arr uS 1 false 0 (.ts (V.map sv))]⟩)
  (fun i => f.args.length - i) 0 ⟨Nat.zero_le _, fun i' _ _ _ h => absurd h (Nat.not_lt_zero _)⟩ ?_ (fun i ⟨hi, hE⟩ => ?_)
 ·exact π [0, 1, 3] rfl ⟨rfl, rfl, rfl, rfl, rfl, trivial⟩ ⟨rfl, rfl, rfl, trivial⟩
 refine U (fun c => ?_) (fun c => ?_)
 ·have c : i < f.args.length := by have := dn c; omega
  obtain ⟨a, ha, wv⟩ := get_some (R := f.args) (i := i) c
  obtain ⟨k, hk, de⟩ := hG.CK a wv
  have cm := oy hk
  obtain ⟨k2, dA, Gg, pW⟩ := cN cm
  obtain rfl : k = k2 := by rw [hk] at dA; exact Option.some.inj dA
  have Nn : k.bb.length ≤ 9223372036854775807 := du (AR hd k Gg)
  have Tl : (k.bb.map (T.int .i64)).length = k.bb.length := by simp
  obtain ⟨v, hv, _⟩ := get_some (R := V) (i := i) (by omega)
  have gA := ((hV.val i v hv).1).all
  have P3 : v < 2 ^ k.bits.toNat := gA.lt fun p x hp hx => by
   obtain ⟨m, hm, ph, _⟩ := (hG.FX (by rw [← hA]; exact hp)).op hx ha hk
   omega
  refine ξ (show (f.args.map Φ)[((i : Nat) : Int).toNat]? = some (Φ a) from by rw [Int.toNat_natCast, List.getElem?_map, ha]; rfl) ?_
  refine ε (gn rfl cm.1) ?_
  refine ξ (bW pW) ?_
  refine dW (fun e s' => (e = .exit 4 ∧ (∀ e ∈ k.bb, ¬ e = eo k v) ∧ ∃ (b0 : AV) (j : Nat), s' = ⟨[(105, b0), (3, .ptr 0 0 0 0), (9, .sl 2 0 0 f.args.length), (89, .t (.κ 2 (f.args.map Φ))), (90, .t (.int .i64 ((f.args.map Φ).length : Int))), (91, .t (.int .i64 i)), (13, .t (.int .i64 i)), (14, .ptr 3 0 0 0), (102, .t (.κ 1 (k.bb.map (T.int .i64)))), (103, .t (.int .i64 ((k.bb.map (T.int .i64)).length : Int))), (104, .t (.int .i64 j))], [.box (b_ d), .box (eO f), .arr uS 1 false 0 (.ts (V.map sv))] ++ [.box [.t (.str a.name), .t (.int .i64 a.bn)]]⟩) ∨ (e = .ret ∧ ∃ env H, s' = ⟨(6, .t (.bool false)) :: env, H⟩)) (fun Hz HQ => ?_) ?_
  ·refine ak (fun j : Nat => j ≤ k.bb.length ∧ ∀ e ∈ k.bb.take j, ¬ e = eo k v) (fun j => ⟨[(3, .ptr 0 0 0 0), (9, .sl 2 0 0 f.args.length), (89, .t (.κ 2 (f.args.map Φ))), (90, .t (.int .i64 ((f.args.map Φ).length : Int))), (91, .t (.int .i64 i)), (13, .t (.int .i64 i)), (14, .ptr 3 0 0 0), (102, .t (.κ 1 (k.bb.map (T.int .i64)))), (103, .t (.int .i64 ((k.bb.map (T.int .i64)).length : Int))), (104, .t (.int .i64 j))], [.box (b_ d), .box (eO f), .arr uS 1 false 0 (.ts (V.map sv))] ++ [.box [.t (.str a.name), .t (.int .i64 a.bn)]]⟩)
    (fun j => k.bb.length - j) 0 ⟨Nat.zero_le _, by simp⟩ ?_ (fun j ⟨hj, hN⟩ => ?_)
   ·exact a8 ⟨rfl, rfl, rfl, rfl, rfl, rfl, rfl, rfl, rfl, rfl, trivial⟩ rfl
   refine U (fun cj => ?_) (fun cj => ?_)
   ·have cj : j < k.bb.length := by have := dn cj; omega
    obtain ⟨x, hx, cX⟩ := get_some (R := k.bb) (i := j) cj
    refine ξ (show (k.bb.map (T.int .i64))[((j : Nat) : Int).toNat]? = some (T.int .i64 x) from by rw [Int.toNat_natCast, List.getElem?_map, hx]; rfl) ?_
    refine υ Db (by decide +kernel) ?_
    refine ε (gn rfl cm.1) ?_
    refine ξ (bW pW) ?_
    refine ε (mD rfl (by omega)) ?_
    refine ξ (iX hv) ?_
    refine γ.b9 (zB d k de v P3) rfl ⟨.refl _, .refl _, trivial⟩ ?_
    refine And.intro (fun j hj => by first | (cases hj; done) | exact ψ.append _ _ _ | exact ψ.refl _ _) ?_
    refine U (fun ce => ?_) (fun ce => ?_)
    ·exact HQ _ _ (.inr ⟨rfl, _, _, rfl⟩)
    have ce : ¬ x = eo k v := by simpa using ce
    refine δ (n := ((j + 1 : Nat) : Int)) (ag (n := j + 1) (by omega)) ?_
    conv => whnf
    exact ⟨⟨j + 1, cj, eh hx hN ce⟩, π [0, 1, 2, 3] rfl ⟨rfl, rfl, rfl, rfl, rfl, rfl, rfl, rfl, rfl, rfl, trivial⟩ ⟨rfl, rfl, rfl, rfl, trivial⟩, by show k.bb.length - (j + 1) < k.bb.length - j; omega⟩
   ·have cj : j = k.bb.length := by have := dE cj; omega
    rw [cj, List.take_length] at hN
    exact HQ _ _ (.inl ⟨rfl, hN, _, j, rfl⟩)
  rintro _ _ (⟨rfl, hN, b1, j, rfl⟩ | ⟨rfl, env, H, rfl⟩)
  ·refine δ (n := ((i + 1 : Nat) : Int)) (ag (n := i + 1) (by omega)) ?_
   conv => whnf
   exact ⟨⟨i + 1, c, fun i' a' k' n h' p6 iw Kc => by
    by_cases e : i' = i
    ·subst e
     obtain rfl : a = a' := by rw [ha] at p6; exact Option.some.inj p6
     obtain rfl : k = k' := by rw [hk] at iw; exact Option.some.inj iw
     rw [Kc.oJ gA]
     exact fun hm => hN _ hm rfl
    ·exact hE i' a' k' n (by omega) p6 iw Kc⟩, π [0, 1, 2] rfl ⟨rfl, rfl, rfl, rfl, rfl, trivial⟩ ⟨rfl, rfl, rfl, trivial⟩, by show f.args.length - (i + 1) < f.args.length - i; omega⟩
  ·exact vU
 ·have c : i = f.args.length := by have := dE c; omega
  exact KJ fun _ => ⟨by rw [← hA]; exact cl, fun q x hx => by rw [← hA] at hx; exact hV.lits q x (List.getElem?_eq_some_iff.1 hx).1 hx, fun i' a k n ha hk hn => hE i' a k n (by have := (List.getElem?_eq_some_iff.1 ha).1; omega) ha hk (by rw [hA]; exact hn)⟩
end Go.Proofs.YtcogcbplmkcojaaGreatDoor
